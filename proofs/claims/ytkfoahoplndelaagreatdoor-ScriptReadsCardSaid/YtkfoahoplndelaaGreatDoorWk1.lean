/-
  The functions do what their images say: walks, written by a program of mine (gen.py).
-/
import Derived.Test.YtkfoahoplndelaaGreatDoorIm1
import Derived.Test.YtkfoahoplndelaaGreatDoorGw2
namespace Go.Proofs.YtkfoahoplndelaaGreatDoor
open Go Go.Pm
set_option maxRecDepth 100000
set_option maxHeartbeats 4000000
set_option linter.unusedVariables false

theorem intarsialaw25_few_ok (E : Pm.Env) [LaidE E] (a0 : S_Plan) (r : S_Plan) (h : intarsialaw25_few a0 = some r) : FnR E Tryz.prog 13 [S_Plan.av a0] (S_Plan.av r) false := by
  refine FnR.of_ev (T := T) (rows := [23, 68]) tOk mixed Tryz.func13 rfl (by kernel_rfl) (by kernel_rfl) rfl fun hwf => ?_
  unfold intarsialaw25_few at h
  refine SeqJ.go <| And.intro rfl <| And.intro rfl <| SeqN.go <| SeqJ.go <| NormE.same <| And.intro rfl <| bind_elim h fun x1 hx1 h => ?_
  have qx1 := (slc_some hx1).1
  have hx1e := (slc_some hx1).2
  refine And.intro (fun _ => qx1) <| NormE.to (AV.str x1) (fun _ => congrArg AV.str hx1e.symm) ?_
  refine And.intro ⟨rfl, rfl, rfl, Nat.le_of_ble_eq_true rfl⟩ (Exists.intro [AV.str x1, AV.list 3 ((a0.Routes).map S_Route.av), AV.list 4 ((a0.Deeds).map S_Deed.av)] (And.intro (fun _ => rfl) ?_))
  refine SeqN.go <| SeqJ.go <| And.intro ⟨rfl, rfl, rfl⟩ <| NormE.to (AV.list 3 (([] : List S_Route).map S_Route.av)) (fun _ => rfl) <| NormE.to (AV.int .i64 ((a0.Routes).length : Int)) (fun _ => len_list S_Route.av (a0.Routes)) <| And.intro rfl <| bind_elim h fun x2 hx2 h => ?_
  have qx2 := (slc_some hx2).1
  have hx2e := (slc_some hx2).2
  refine And.intro ⟨(fun hg => slc_cond S_Route.av (qx2)), rfl⟩ <| NormE.to (AV.list 3 (x2.map S_Route.av)) (fun _ => (slc_list 3 S_Route.av _ _ _).trans (congrArg (fun y => AV.list 3 (List.map S_Route.av y)) hx2e.symm)) <| chk_elim h fun q3 h => And.intro ⟨rfl, rfl, rfl⟩ <| And.intro rfl <| And.intro (by rw [List.length_map]; exact q3) ?_
  refine Exists.intro (x2.flatMap S_Route.cells) (And.intro (flat_from _ _) ?_)
  refine NormE.to (AV.row 2 0 x2.length) (fun _ => row_len _ _ _) ?_
  refine And.intro ⟨rfl, rfl, rfl, Nat.le_of_ble_eq_true rfl⟩ (Exists.intro [AV.str x1, AV.row 2 0 (x2.length), AV.list 4 ((a0.Deeds).map S_Deed.av)] (And.intro (fun _ => rfl) ?_))
  refine SeqN.via (St.of [⟨1, AV.ptr 0 0, none⟩, ⟨2, AV.ptr 1 0, none⟩] [.cells 25 [AV.str x1, AV.row 2 0 (x2.length), AV.list 4 ((a0.Deeds).map S_Deed.av)] [], .cells 25 [AV.str ([] : Bytes), AV.list 3 (([] : List S_Route).map S_Route.av), AV.list 4 (([] : List S_Deed).map S_Deed.av)] [(1, 0), (2, 1)], .cells 92 (x2.flatMap S_Route.cells) []] [1, 1]) ?_ ?_
  · refine Gho.to _ _ _ [0, 1] ?_ ?_ ?_ rfl rfl ?_
    · exact ⟨⟨rfl, rfl, rfl⟩, ⟨⟨rfl, rfl, rfl⟩, ⟨⟨rfl, rfl, rfl⟩, trivial⟩⟩⟩
    · exact (and_tt' rfl (and_tt' rfl (and_tt' (noB_flat _ (fun _ => rfl) _) rfl)))
    · exact rfl
    · exact ⟨rfl, rfl, trivial, rfl, rfl, trivial, trivial⟩
  refine bind_elim h fun j4 hj4 h => ?_
  refine SeqJ.join (St.of [⟨1, AV.ptr 0 0, none⟩, ⟨2, AV.ptr 1 0, none⟩] [.cells 25 [AV.str x1, AV.row 2 0 (x2.length), AV.list 4 ((a0.Deeds).map S_Deed.av)] [], .cells 25 [AV.str ([] : Bytes), AV.list 3 (([] : List S_Route).map S_Route.av), AV.list 4 (([] : List S_Deed).map S_Deed.av)] [(1, 0), (2, 1)], .cells 92 (j4.flatMap S_Route.cells) []] [1, 1]) ?_ ?_
  · clear h; have h := hj4; clear hj4
    refine SeqJ.go <| NormE.same <| SeqN.go ?_
    refine LoopE.img (fun x : (Int × (List S_Route)) => St.of [⟨1, AV.ptr 0 0, none⟩, ⟨2, AV.ptr 1 0, none⟩, ⟨26, AV.row 2 0 (x2.length), none⟩, ⟨27, AV.int .i64 ((x2.length : Nat) : Int), none⟩, ⟨28, AV.int .i64 (x.1), none⟩] [.cells 25 [AV.str x1, AV.row 2 0 (x2.length), AV.list 4 ((a0.Deeds).map S_Deed.av)] [], .cells 25 [AV.str ([] : Bytes), AV.list 3 (([] : List S_Route).map S_Route.av), AV.list 4 (([] : List S_Deed).map S_Deed.av)] [(1, 0), (2, 1)], .cells 92 ((x.2).flatMap S_Route.cells) []] [1, 1]) (intarsialaw25_few_b1 x2) ((0 : Int), x2) h ?_ ?_
    · refine Gho.to _ _ _ [0, 1] ?_ ?_ ?_ rfl rfl ?_
      · exact ⟨⟨rfl, rfl, rfl⟩, ⟨⟨rfl, rfl, rfl⟩, ⟨⟨rfl, rfl, rfl⟩, trivial⟩⟩⟩
      · exact (and_tt' rfl (and_tt' rfl (and_tt' (noB_flat _ (fun _ => rfl) _) rfl)))
      · exact rfl
      · exact ⟨rfl, rfl, trivial, rfl, rfl, trivial, rfl, rfl, trivial, rfl, rfl, trivial, rfl, rfl, trivial, trivial⟩
    intro n1 x y1 h hl1 hr1
    obtain ⟨s5, s6⟩ := x
    unfold intarsialaw25_few_b1 at h
    dsimp only at h
    refine SeqJ.go <| SeqN.go <| SeqJ.go ?_
    refine Br.mk (fun ht => ?_) (fun ht => ?_)
    · replace h := cond_tt h ht
      refine SeqN.go <| SeqJ.go <| SeqJ.go <| chk_elim h fun q7 h => And.intro (fun _ => q7) <| bind_elim h fun x8 hx8 h => And.intro ⟨Nat.le_of_ble_eq_true rfl, flat_fits S_Route.cells 3 (fun _ => rfl) hx8⟩ <| NormE.to (S_Route.av x8) (fun _ => congrArg AV.agg (flat_load S_Route.cells 3 (fun _ => rfl) hx8)) <| And.intro rfl ?_
      refine And.intro ⟨rfl, rfl, rfl, Nat.le_of_ble_eq_true rfl⟩ (Exists.intro (S_Route.cells x8) (And.intro (fun _ => rfl) ?_))
      refine SeqN.go <| NormE.same <| And.intro rfl <| bind_elim h fun x9 hx9 h => ?_
      have qx9 := (slc_some hx9).1
      have hx9e := (slc_some hx9).2
      refine And.intro (fun _ => qx9) <| NormE.to (AV.str x9) (fun _ => congrArg AV.str hx9e.symm) <| NormE.same <| And.intro rfl <| bind_elim h fun x10 hx10 h => ?_
      have qx10 := (slc_some hx10).1
      have hx10e := (slc_some hx10).2
      refine And.intro (fun _ => qx10) <| NormE.to (AV.str x10) (fun _ => congrArg AV.str hx10e.symm) <| NormE.same <| And.intro rfl <| bind_elim h fun x11 hx11 h => ?_
      have qx11 := (slc_some hx11).1
      have hx11e := (slc_some hx11).2
      refine And.intro (fun _ => qx11) <| NormE.to (AV.str x11) (fun _ => congrArg AV.str hx11e.symm) <| And.intro ⟨rfl, rfl, Nat.le_of_ble_eq_true rfl⟩ <| And.intro ⟨rfl, rfl, Nat.le_of_ble_eq_true rfl⟩ <| And.intro ⟨rfl, rfl, Nat.le_of_ble_eq_true rfl⟩ <| chk_elim h fun q12 h => And.intro (fun _ => q12) <| bind_elim h fun x13 hx13 h => ?_
      have qx13 := (seti_some hx13).1
      have hx13e := (seti_some hx13).2
      refine And.intro ⟨rfl, rfl, rfl, flat_len_le S_Route.cells 3 (fun _ => rfl) qx13⟩ (Exists.intro (x13.flatMap S_Route.cells) (And.intro (fun _ => flat_store S_Route.cells 3 (fun _ => rfl) (S_Route.mk x9 x10 x11) qx13 hx13e) ?_))
      refine And.intro (by kernel_rfl) ?_
      refine SeqN.via (St.of [⟨1, AV.ptr 0 0, none⟩, ⟨2, AV.ptr 1 0, none⟩, ⟨26, AV.row 2 0 (x2.length), none⟩, ⟨27, AV.int .i64 ((x2.length : Nat) : Int), none⟩, ⟨28, AV.int .i64 s5, none⟩] [.cells 25 [AV.str x1, AV.row 2 0 (x2.length), AV.list 4 ((a0.Deeds).map S_Deed.av)] [], .cells 25 [AV.str ([] : Bytes), AV.list 3 (([] : List S_Route).map S_Route.av), AV.list 4 (([] : List S_Deed).map S_Deed.av)] [(1, 0), (2, 1)], .cells 92 (x13.flatMap S_Route.cells) []] [1, 1]) ?_ ?_
      · refine Gho.to _ _ _ [0, 1] ?_ ?_ ?_ rfl rfl ?_
        · exact ⟨⟨rfl, rfl, rfl⟩, ⟨⟨rfl, rfl, rfl⟩, ⟨⟨rfl, rfl, rfl⟩, trivial⟩⟩⟩
        · exact (and_tt' rfl (and_tt' rfl (and_tt' (noB_flat _ (fun _ => rfl) _) rfl)))
        · exact rfl
        · exact ⟨rfl, rfl, trivial, rfl, rfl, trivial, rfl, rfl, trivial, rfl, rfl, trivial, rfl, rfl, trivial, trivial⟩
      replace h := Option.some.inj h
      refine Exists.intro ⟨(n1, ((IntKind.i64.wrap (s5 + (1 : Int))), x13)), hl1 _ h.symm⟩ (And.intro (Nat.lt_succ_self _) ?_)
      refine Gho.to _ _ _ [0, 1] ?_ ?_ ?_ rfl rfl ?_
      · exact ⟨⟨rfl, rfl, rfl⟩, ⟨⟨rfl, rfl, rfl⟩, ⟨⟨rfl, rfl, rfl⟩, trivial⟩⟩⟩
      · exact (and_tt' rfl (and_tt' rfl (and_tt' (noB_flat _ (fun _ => rfl) _) rfl)))
      · exact rfl
      · exact ⟨rfl, rfl, trivial, rfl, rfl, trivial, rfl, rfl, trivial, rfl, rfl, trivial, rfl, rfl, trivial, trivial⟩
    · replace h := cond_ff h ht
      replace h := Option.some.inj h
      replace h := hr1 _ h.symm
      subst h
      refine Gho.to _ _ _ [0, 1] ?_ ?_ ?_ rfl rfl ?_
      · exact ⟨⟨rfl, rfl, rfl⟩, ⟨⟨rfl, rfl, rfl⟩, ⟨⟨rfl, rfl, rfl⟩, trivial⟩⟩⟩
      · exact (and_tt' rfl (and_tt' rfl (and_tt' (noB_flat _ (fun _ => rfl) _) rfl)))
      · exact rfl
      · exact ⟨rfl, rfl, trivial, rfl, rfl, trivial, trivial⟩
  · clear hj4
    refine SeqJ.go <| And.intro ⟨rfl, rfl, rfl⟩ <| NormE.to (AV.list 4 (([] : List S_Deed).map S_Deed.av)) (fun _ => rfl) <| NormE.to (AV.int .i64 ((a0.Deeds).length : Int)) (fun _ => len_list S_Deed.av (a0.Deeds)) <| And.intro rfl <| bind_elim h fun x14 hx14 h => ?_
    have qx14 := (slc_some hx14).1
    have hx14e := (slc_some hx14).2
    refine And.intro ⟨(fun hg => slc_cond S_Deed.av (qx14)), rfl⟩ <| NormE.to (AV.list 4 (x14.map S_Deed.av)) (fun _ => (slc_list 4 S_Deed.av _ _ _).trans (congrArg (fun y => AV.list 4 (List.map S_Deed.av y)) hx14e.symm)) <| chk_elim h fun q15 h => And.intro ⟨rfl, rfl, rfl⟩ <| And.intro rfl <| And.intro (by rw [List.length_map]; exact q15) ?_
    refine Exists.intro (x14.flatMap S_Deed.cells) (And.intro (flat_from _ _) ?_)
    refine NormE.to (AV.row 3 0 x14.length) (fun _ => row_len _ _ _) ?_
    refine And.intro ⟨rfl, rfl, rfl, Nat.le_of_ble_eq_true rfl⟩ (Exists.intro [AV.str x1, AV.row 2 0 (x2.length), AV.row 3 0 (x14.length)] (And.intro (fun _ => rfl) ?_))
    refine SeqN.go <| bind_elim h fun j16 hj16 h => ?_
    refine SeqJ.join (St.of [⟨1, AV.ptr 0 0, none⟩, ⟨2, AV.ptr 1 0, none⟩] [.cells 25 [AV.str x1, AV.row 2 0 (x2.length), AV.row 3 0 (x14.length)] [], .cells 25 [AV.str ([] : Bytes), AV.list 3 (([] : List S_Route).map S_Route.av), AV.list 4 (([] : List S_Deed).map S_Deed.av)] [(1, 0), (2, 1)], .cells 92 (j4.flatMap S_Route.cells) [], .cells 94 (j16.flatMap S_Deed.cells) []] [1, 1]) ?_ ?_
    · clear h; have h := hj16; clear hj16
      refine SeqJ.go <| NormE.same <| SeqN.go ?_
      refine LoopE.img (fun x : (Int × (List S_Deed)) => St.of [⟨1, AV.ptr 0 0, none⟩, ⟨2, AV.ptr 1 0, none⟩, ⟨71, AV.row 3 0 (x14.length), none⟩, ⟨72, AV.int .i64 ((x14.length : Nat) : Int), none⟩, ⟨73, AV.int .i64 (x.1), none⟩] [.cells 25 [AV.str x1, AV.row 2 0 (x2.length), AV.row 3 0 (x14.length)] [], .cells 25 [AV.str ([] : Bytes), AV.list 3 (([] : List S_Route).map S_Route.av), AV.list 4 (([] : List S_Deed).map S_Deed.av)] [(1, 0), (2, 1)], .cells 92 (j4.flatMap S_Route.cells) [], .cells 94 ((x.2).flatMap S_Deed.cells) []] [1, 1]) (intarsialaw25_few_b2 x14) ((0 : Int), x14) h ?_ ?_
      · refine Gho.to _ _ _ [0, 1] ?_ ?_ ?_ rfl rfl ?_
        · exact ⟨⟨rfl, rfl, rfl⟩, ⟨⟨rfl, rfl, rfl⟩, ⟨⟨rfl, rfl, rfl⟩, ⟨⟨rfl, rfl, rfl⟩, trivial⟩⟩⟩⟩
        · exact (and_tt' rfl (and_tt' rfl (and_tt' (noB_flat _ (fun _ => rfl) _) (and_tt' (noB_flat _ (fun _ => rfl) _) rfl))))
        · exact rfl
        · exact ⟨rfl, rfl, trivial, rfl, rfl, trivial, rfl, rfl, trivial, rfl, rfl, trivial, rfl, rfl, trivial, trivial⟩
      intro n2 x y2 h hl2 hr2
      obtain ⟨s17, s18⟩ := x
      unfold intarsialaw25_few_b2 at h
      dsimp only at h
      refine SeqJ.go <| SeqN.go <| SeqJ.go ?_
      refine Br.mk (fun ht => ?_) (fun ht => ?_)
      · replace h := cond_tt h ht
        refine SeqN.go <| SeqJ.go <| SeqJ.go <| chk_elim h fun q19 h => And.intro (fun _ => q19) <| bind_elim h fun x20 hx20 h => And.intro ⟨Nat.le_of_ble_eq_true rfl, flat_fits S_Deed.cells 4 (fun _ => rfl) hx20⟩ <| NormE.to (S_Deed.av x20) (fun _ => congrArg AV.agg (flat_load S_Deed.cells 4 (fun _ => rfl) hx20)) <| And.intro rfl ?_
        refine And.intro ⟨rfl, rfl, rfl, Nat.le_of_ble_eq_true rfl⟩ (Exists.intro (S_Deed.cells x20) (And.intro (fun _ => rfl) ?_))
        refine SeqN.go <| NormE.same <| And.intro rfl <| bind_elim h fun x21 hx21 h => ?_
        have qx21 := (slc_some hx21).1
        have hx21e := (slc_some hx21).2
        refine And.intro (fun _ => qx21) <| NormE.to (AV.str x21) (fun _ => congrArg AV.str hx21e.symm) <| chk_elim h fun q22 h => And.intro (fun _ => q22) <| bind_elim h fun x23 hx23 h => ?_
        refine And.intro ⟨rfl, rfl, rfl, flat_lenF S_Deed.cells 4 (fun _ => rfl) hx23 (o := 2) (Nat.le_of_ble_eq_true rfl)⟩ (Exists.intro ((s18.set s17.toNat (S_Deed.mk (x23.Kind) (x23.At) x21 (x23.Clean))).flatMap S_Deed.cells) (And.intro (fun _ => flat_storeF S_Deed.cells 4 (fun _ => rfl) hx23 (o := 2) (Nat.le_of_ble_eq_true rfl) rfl) ?_))
        refine And.intro (by kernel_rfl) ?_
        refine SeqN.via (St.of [⟨1, AV.ptr 0 0, none⟩, ⟨2, AV.ptr 1 0, none⟩, ⟨71, AV.row 3 0 (x14.length), none⟩, ⟨72, AV.int .i64 ((x14.length : Nat) : Int), none⟩, ⟨73, AV.int .i64 s17, none⟩] [.cells 25 [AV.str x1, AV.row 2 0 (x2.length), AV.row 3 0 (x14.length)] [], .cells 25 [AV.str ([] : Bytes), AV.list 3 (([] : List S_Route).map S_Route.av), AV.list 4 (([] : List S_Deed).map S_Deed.av)] [(1, 0), (2, 1)], .cells 92 (j4.flatMap S_Route.cells) [], .cells 94 ((s18.set s17.toNat (S_Deed.mk (x23.Kind) (x23.At) x21 (x23.Clean))).flatMap S_Deed.cells) []] [1, 1]) ?_ ?_
        · refine Gho.to _ _ _ [0, 1] ?_ ?_ ?_ rfl rfl ?_
          · exact ⟨⟨rfl, rfl, rfl⟩, ⟨⟨rfl, rfl, rfl⟩, ⟨⟨rfl, rfl, rfl⟩, ⟨⟨rfl, rfl, rfl⟩, trivial⟩⟩⟩⟩
          · exact (and_tt' rfl (and_tt' rfl (and_tt' (noB_flat _ (fun _ => rfl) _) (and_tt' (noB_flat _ (fun _ => rfl) _) rfl))))
          · exact rfl
          · exact ⟨rfl, rfl, trivial, rfl, rfl, trivial, rfl, rfl, trivial, rfl, rfl, trivial, rfl, rfl, trivial, trivial⟩
        replace h := Option.some.inj h
        refine Exists.intro ⟨(n2, ((IntKind.i64.wrap (s17 + (1 : Int))), (s18.set s17.toNat (S_Deed.mk (x23.Kind) (x23.At) x21 (x23.Clean))))), hl2 _ h.symm⟩ (And.intro (Nat.lt_succ_self _) ?_)
        refine Gho.to _ _ _ [0, 1] ?_ ?_ ?_ rfl rfl ?_
        · exact ⟨⟨rfl, rfl, rfl⟩, ⟨⟨rfl, rfl, rfl⟩, ⟨⟨rfl, rfl, rfl⟩, ⟨⟨rfl, rfl, rfl⟩, trivial⟩⟩⟩⟩
        · exact (and_tt' rfl (and_tt' rfl (and_tt' (noB_flat _ (fun _ => rfl) _) (and_tt' (noB_flat _ (fun _ => rfl) _) rfl))))
        · exact rfl
        · exact ⟨rfl, rfl, trivial, rfl, rfl, trivial, rfl, rfl, trivial, rfl, rfl, trivial, rfl, rfl, trivial, trivial⟩
      · replace h := cond_ff h ht
        replace h := Option.some.inj h
        replace h := hr2 _ h.symm
        subst h
        refine Gho.to _ _ _ [0, 1] ?_ ?_ ?_ rfl rfl ?_
        · exact ⟨⟨rfl, rfl, rfl⟩, ⟨⟨rfl, rfl, rfl⟩, ⟨⟨rfl, rfl, rfl⟩, ⟨⟨rfl, rfl, rfl⟩, trivial⟩⟩⟩⟩
        · exact (and_tt' rfl (and_tt' rfl (and_tt' (noB_flat _ (fun _ => rfl) _) (and_tt' (noB_flat _ (fun _ => rfl) _) rfl))))
        · exact rfl
        · exact ⟨rfl, rfl, trivial, rfl, rfl, trivial, trivial⟩
    · clear hj16
      refine SeqJ.go <| And.intro ⟨Nat.le_of_ble_eq_true rfl, Nat.le_of_ble_eq_true rfl⟩ <| NormE.to (AV.agg [AV.str x1, AV.row 2 0 (x2.length), AV.row 3 0 (x14.length)]) (fun _ => rfl) ?_
      refine And.intro ⟨rfl, rfl, rfl, Nat.le_of_ble_eq_true rfl⟩ (Exists.intro [AV.str x1, AV.row 2 0 (x2.length), AV.row 3 0 (x14.length)] (And.intro (fun _ => rfl) ?_))
      refine SeqN.go <| chk_elim h fun hc2 h => chk_elim h fun hc1 h => ?_
      replace h := Option.some.inj h
      refine RetE.frz ?_
      refine And.intro ⟨Nat.le_of_ble_eq_true rfl, Nat.le_of_ble_eq_true rfl⟩ (Exists.intro (AV.agg [AV.str x1, AV.row 2 0 (x2.length), AV.row 3 0 (x14.length)]) (And.intro rfl ?_))
      exact Exists.intro (AV.agg [AV.str x1, AV.list 3 ((j4.take (x2.length)).map S_Route.av), AV.list 4 ((j16.take (x14.length)).map S_Deed.av)]) (And.intro (Frz.aggL ⟨Frz.pure _ (AV.puD_ok rfl), Frz.rows S_Route.av 3 (Nat.le_of_ble_eq_true rfl) (fun _ => rfl) (fun _ => rfl) rfl (flat_from _ _) hc1, Frz.rows S_Deed.av 4 (Nat.le_of_ble_eq_true rfl) (fun _ => rfl) (fun _ => rfl) rfl (flat_from _ _) hc2, trivial⟩) (And.intro (congrArg (fun r : S_Plan => S_Plan.av r) h) rfl))

theorem stringslite_IndexByte_ok (E : Pm.Env) [LaidE E] (a0 : Bytes) (a1 : Int) (r : Int) (h : stringslite_IndexByte a0 a1 = some r) : FnR E Tryz.prog 160 [AV.str a0, AV.int .u8 a1] (AV.int .i64 r) false := by
  refine FnR.of_ev (T := T) (rows := []) tOk mixed Tryz.func160 rfl (by kernel_rfl) (by kernel_rfl) rfl fun hwf => ?_
  unfold stringslite_IndexByte at h
  refine SeqJ.go <| SeqN.go <| SeqJ.go <| bind_elim h fun x1 hx1 h => CallH.data _ false rfl (bytealg_IndexByteString_ok E a0 a1 x1 hx1) <| SeqN.go ?_
  replace h := Option.some.inj h
  refine RetE.plain ?_
  exact And.intro rfl (And.intro (congrArg (fun r : Int => AV.int .i64 r) h) rfl)

theorem strings_IndexByte_ok (E : Pm.Env) [LaidE E] (a0 : Bytes) (a1 : Int) (r : Int) (h : strings_IndexByte a0 a1 = some r) : FnR E Tryz.prog 151 [AV.str a0, AV.int .u8 a1] (AV.int .i64 r) false := by
  refine FnR.of_ev (T := T) (rows := []) tOk mixed Tryz.func151 rfl (by kernel_rfl) (by kernel_rfl) rfl fun hwf => ?_
  unfold strings_IndexByte at h
  refine SeqJ.go <| SeqN.go <| SeqJ.go <| bind_elim h fun x1 hx1 h => CallH.data _ false rfl (stringslite_IndexByte_ok E a0 a1 x1 hx1) <| SeqN.go ?_
  replace h := Option.some.inj h
  refine RetE.plain ?_
  exact And.intro rfl (And.intro (congrArg (fun r : Int => AV.int .i64 r) h) rfl)

theorem text_tokens_ok (E : Pm.Env) [LaidE E] (r : (List Bool)) (h : text_tokens = some r) : FnR E Tryz.prog 154 [] (AV.iptr (r.map AV.bool)) false := by
  refine FnR.of_ev (T := T) (rows := []) tOk mixed Tryz.func154 rfl (by kernel_rfl) (by kernel_rfl) rfl fun hwf => ?_
  unfold text_tokens at h
  refine SeqJ.go <| SeqN.go <| SeqJ.go <| And.intro rfl <| SeqN.go <| bind_elim h fun j1 hj1 h => ?_
  refine SeqJ.join (St.of [⟨1, AV.ptr 0 0, none⟩] [.cells 215 (j1.map AV.bool) []] []) ?_ ?_
  · clear h; have h := hj1; clear hj1
    refine SeqJ.go <| SeqN.go ?_
    refine LoopE.img (fun x : (Int × (List Bool)) => St.of [⟨1, AV.ptr 0 0, none⟩, ⟨4, AV.int .i64 (x.1), none⟩] [.cells 215 ((x.2).map AV.bool) []] []) (text_tokens_b1) ((0 : Int), (List.replicate 256 false)) h ?_ ?_
    · refine Gho.to _ _ _ [] ?_ ?_ ?_ rfl rfl ?_
      · exact ⟨⟨rfl, rfl, rfl⟩, trivial⟩
      · exact (and_tt' (noB_map _ (fun _ => rfl) _) rfl)
      · exact rfl
      · exact ⟨rfl, rfl, trivial, rfl, rfl, trivial, trivial⟩
    intro n1 x y1 h hl1 hr1
    obtain ⟨s2, s3⟩ := x
    unfold text_tokens_b1 at h
    dsimp only at h
    refine SeqJ.go <| SeqN.go <| SeqJ.go ?_
    refine Br.mk (fun ht => ?_) (fun ht => ?_)
    · replace h := cond_tt h ht
      refine SeqN.go <| SeqJ.go <| SeqJ.go <| SeqN.go <| SeqJ.go <| SeqN.go <| And.intro (fun hg => hg) <| And.intro (fun hg => (and_r hg)) <| And.intro (fun hg => hg) <| And.intro (fun hg => hg) <| And.intro (fun hg => hg) <| And.intro (fun hg => hg) <| And.intro (fun hg => hg) <| And.intro (fun hg => (and_r hg)) <| And.intro (fun hg => hg) <| And.intro (fun hg => hg) <| And.intro (fun hg => hg) <| And.intro (fun hg => hg) <| And.intro (fun hg => hg) <| And.intro (fun hg => (and_r hg)) <| bind_elim h fun x4 hx4 h => And.intro (fun hg => hg) <| And.intro rfl ?_
      refine CallF.mk _ false (fun hg => strings_IndexByte_ok E ([33, 35, 36, 37, 38, 39, 42, 43, 45, 46, 94, 95, 124, 126, 96] : Bytes) (IntKind.u8.wrap s2) x4 (gcall_some hx4 hg)) (And.intro rfl ?_)
      refine And.intro (fun hg => hg) <| And.intro (fun hg => (and_r hg)) <| chk_elim h fun q5 h => And.intro (fun _ => q5) <| bind_elim h fun x6 hx6 h => ?_
      have qx6 := (seti_some hx6).1
      have hx6e := (seti_some hx6).2
      refine And.intro ⟨rfl, rfl, rfl, seti_len AV.bool qx6 0 rfl⟩ (Exists.intro (x6.map AV.bool) (And.intro (fun hw => seti_map' AV.bool _ qx6 hx6e) ?_))
      refine SeqN.via (St.of [⟨1, AV.ptr 0 0, none⟩, ⟨4, AV.int .i64 s2, none⟩] [.cells 215 (x6.map AV.bool) []] []) ?_ ?_
      · refine Gho.to _ _ _ [] ?_ ?_ ?_ rfl rfl ?_
        · exact ⟨⟨rfl, rfl, rfl⟩, trivial⟩
        · exact (and_tt' (noB_map _ (fun _ => rfl) _) rfl)
        · exact rfl
        · exact ⟨rfl, rfl, trivial, rfl, rfl, trivial, trivial⟩
      replace h := Option.some.inj h
      refine Exists.intro ⟨(n1, ((IntKind.i64.wrap (s2 + (1 : Int))), x6)), hl1 _ h.symm⟩ (And.intro (Nat.lt_succ_self _) ?_)
      refine Gho.to _ _ _ [] ?_ ?_ ?_ rfl rfl ?_
      · exact ⟨⟨rfl, rfl, rfl⟩, trivial⟩
      · exact (and_tt' (noB_map _ (fun _ => rfl) _) rfl)
      · exact rfl
      · exact ⟨rfl, rfl, trivial, rfl, rfl, trivial, trivial⟩
    · replace h := cond_ff h ht
      replace h := Option.some.inj h
      replace h := hr1 _ h.symm
      subst h
      refine Gho.to _ _ _ [] ?_ ?_ ?_ rfl rfl ?_
      · exact ⟨⟨rfl, rfl, rfl⟩, trivial⟩
      · exact (and_tt' (noB_map _ (fun _ => rfl) _) rfl)
      · exact rfl
      · exact ⟨rfl, rfl, trivial, trivial⟩
  · clear hj1
    refine SeqJ.go <| SeqN.go <| chk_elim h fun hc1 h => ?_
    replace h := Option.some.inj h
    refine RetE.frz ?_
    exact Exists.intro (AV.iptr (j1.map AV.bool)) (And.intro (Frz.ptr0 rfl (puB_map _ (fun _ => rfl) _) (by rw [List.length_map]; exact hc1)) (And.intro (congrArg (fun r : (List Bool) => AV.iptr (r.map AV.bool)) h) rfl))

theorem text_all_ok (E : Pm.Env) [LaidE E] (a0 : Bytes) (a1 : (List Bool)) (a2 : FuncId) (a2c : List AV) (a2i : (List Bool) → Int → Option Bool) (a2h : ∀ (x0 : (List Bool)) (x1 : Int) (r : Bool), a2i x0 x1 = some r → FnR E Tryz.prog a2 ([AV.iptr (x0.map AV.bool), AV.int .u8 x1] ++ a2c) (AV.bool r) false) (a2p : a2c.all AV.puB = true) (r : Bool) (h : text_all a0 a1 a2i = some r) : FnR E Tryz.prog 153 [AV.str a0, AV.iptr (a1.map AV.bool), AV.fn a2 [] a2c] (AV.bool r) false := by
  refine FnR.of_ev (T := T) (rows := []) tOk mixed Tryz.func153 rfl (by kernel_rfl) (by kernel_rfl) rfl fun hwf => ?_
  unfold text_all at h
  refine SeqJ.go <| SeqN.go <| SeqJ.go <| SeqJ.go <| NormE.same <| SeqN.go ?_
  refine LoopE.img (fun x : Int => St.of [⟨0, AV.str a0, none⟩, ⟨1, AV.iptr (a1.map AV.bool), none⟩, ⟨2, AV.fn a2 [] a2c, none⟩, ⟨9, AV.int .i64 (a0.length : Int), none⟩, ⟨10, AV.int .i64 x, none⟩] [] []) (text_all_b1 a0 a1 a2i) (0 : Int) h ?_ ?_
  · refine Gho.to _ _ _ [] ?_ ?_ ?_ rfl rfl ?_
    · exact trivial
    · exact rfl
    · exact rfl
    · exact ⟨rfl, rfl, trivial, rfl, rfl, trivial, rfl, (noB_fn a2p _), trivial, rfl, rfl, trivial, rfl, rfl, trivial, trivial⟩
  intro n1 x y1 h hl1 hr1
  revert h; revert x; intro s1 h
  unfold text_all_b1 at h
  refine SeqJ.go <| SeqN.go <| SeqJ.go ?_
  refine Br.mk (fun ht => ?_) (fun ht => ?_)
  · replace h := cond_tt h ht
    refine SeqN.go <| SeqJ.go <| SeqJ.go <| SeqN.go <| SeqJ.go <| bind_elim h fun x2 hx2 h => ?_
    refine Exists.intro x2 (And.intro (fun hg => idx_some hx2) ?_)
    refine bind_elim h fun x3 hx3 h => CallH.data _ false (puD_app rfl (puD_of a2p)) (a2h a1 (x2.toNat : Int) x3 hx3) <| SeqN.go ?_
    refine Br.mk (fun ht => ?_) (fun ht => ?_)
    · replace h := cond_tt h ht
      refine SeqJ.go <| SeqN.go ?_
      replace h := Option.some.inj h
      replace h := hr1 _ h.symm
      refine RetE.plain ?_
      exact And.intro rfl (And.intro (congrArg (fun r : Bool => AV.bool r) h) rfl)
    · replace h := cond_ff h ht
      refine SeqN.go ?_
      replace h := Option.some.inj h
      refine Exists.intro ⟨(n1, (IntKind.i64.wrap (s1 + (1 : Int)))), hl1 _ h.symm⟩ (And.intro (Nat.lt_succ_self _) ?_)
      refine Gho.to _ _ _ [] ?_ ?_ ?_ rfl rfl ?_
      · exact trivial
      · exact rfl
      · exact rfl
      · exact ⟨rfl, rfl, trivial, rfl, rfl, trivial, rfl, (noB_fn a2p _), trivial, rfl, rfl, trivial, rfl, rfl, trivial, trivial⟩
  · replace h := cond_ff h ht
    refine SeqN.go <| SeqJ.go <| SeqN.go ?_
    replace h := Option.some.inj h
    replace h := hr1 _ h.symm
    refine RetE.plain ?_
    exact And.intro rfl (And.intro (congrArg (fun r : Bool => AV.bool r) h) rfl)

theorem text_set_has_ok (E : Pm.Env) [LaidE E] (a0 : (List Bool)) (a1 : Int) (r : Bool) (h : text_set_has a0 a1 = some r) : FnR E Tryz.prog 155 [AV.iptr (a0.map AV.bool), AV.int .u8 a1] (AV.bool r) false := by
  refine FnR.of_ev (T := T) (rows := []) tOk mixed Tryz.func155 rfl (by kernel_rfl) (by kernel_rfl) rfl fun hwf => ?_
  unfold text_set_has at h
  refine SeqJ.go <| SeqN.go <| SeqJ.go <| chk_elim h fun q1 h => And.intro (fun _ => q1) <| bind_elim h fun x2 hx2 h => optE.mk (c := AV.bool x2) (drop_get _ hx2) <| SeqN.go ?_
  replace h := Option.some.inj h
  refine RetE.plain ?_
  exact And.intro rfl (And.intro (congrArg (fun r : Bool => AV.bool r) h) rfl)

theorem text_Token_ok (E : Pm.Env) [LaidE E] (a0 : Bytes) (r : Bool) (h : text_Token a0 = some r) : FnR E Tryz.prog 107 [AV.str a0] (AV.bool r) false := by
  refine FnR.of_ev (T := T) (rows := []) tOk mixed Tryz.func107 rfl (by kernel_rfl) (by kernel_rfl) rfl fun hwf => ?_
  unfold text_Token at h
  refine SeqJ.go <| SeqN.go <| SeqJ.go <| bind_elim h fun x1 hx1 h => And.intro rfl ?_
  refine CallF.mk _ false (fun hg => text_tokens_ok E  x1 (gcall_some hx1 hg)) (And.intro rfl ?_)
  refine bind_elim h fun x2 hx2 h => And.intro (fun hg => hg) <| And.intro (fun hg => hg) <| And.intro rfl ?_
  refine CallF.mk _ false (fun hg => text_all_ok E a0 x1 155 [] (fun x0 x1 => text_set_has x0 x1) (fun x0 x1 r h => text_set_has_ok E x0 x1 r h) rfl x2 (gcall_some hx2 hg)) (And.intro rfl ?_)
  refine And.intro (fun hg => (and_r hg)) <| SeqN.go ?_
  replace h := Option.some.inj h
  refine RetE.plain ?_
  exact And.intro rfl (And.intro (congrArg (fun r : Bool => AV.bool r) h) rfl)

theorem script_device_ok (E : Pm.Env) [LaidE E] (a0 : Bytes) (r : Bool) (h : script_device a0 = some r) : FnR E Tryz.prog 50 [AV.str a0] (AV.bool r) false := by
  refine FnR.of_ev (T := T) (rows := []) tOk mixed Tryz.func50 rfl (by kernel_rfl) (by kernel_rfl) rfl fun hwf => ?_
  unfold script_device at h
  refine SeqJ.go <| SeqN.go <| SeqJ.go <| bind_elim h fun x1 hx1 h => CallH.data _ false rfl (text_Token_ok E a0 x1 hx1) <| And.intro (fun hg => hg) <| NormE.same <| And.intro (fun hg => hg) <| And.intro (fun hg => (and_r hg)) <| SeqN.go ?_
  replace h := Option.some.inj h
  refine RetE.plain ?_
  exact And.intro rfl (And.intro (congrArg (fun r : Bool => AV.bool r) h) rfl)

theorem text_Lower_ok (E : Pm.Env) [LaidE E] (a0 : Bytes) (r : Bytes) (h : text_Lower a0 = some r) : FnR E Tryz.prog 225 [AV.str a0] (AV.str r) false := by
  refine FnR.of_ev (T := T) (rows := [7]) tOk mixed Tryz.func225 rfl (by kernel_rfl) (by kernel_rfl) rfl fun hwf => ?_
  unfold text_Lower at h
  refine SeqJ.go <| SeqN.go <| SeqJ.go <| And.intro ⟨rfl, rfl⟩ <| SeqN.go <| bind_elim h fun j1 hj1 h => ?_
  refine SeqJ.join (St.of [⟨3, AV.row 0 0 ((a0).length), none⟩] [.cells 5 (j1.map byteAV) []] []) ?_ ?_
  · clear h; have h := hj1; clear hj1
    refine SeqJ.go <| NormE.same <| SeqN.go ?_
    refine LoopE.img (fun x : (Int × (List UInt8)) => St.of [⟨3, AV.row 0 0 ((a0).length), none⟩, ⟨8, AV.row 0 0 ((a0).length), none⟩, ⟨9, AV.int .i64 (((a0).length : Nat) : Int), none⟩, ⟨10, AV.int .i64 (x.1), none⟩] [.cells 5 ((x.2).map byteAV) []] []) (text_Lower_b1 a0) ((0 : Int), a0) h ?_ ?_
    · refine Gho.to _ _ _ [] ?_ ?_ ?_ rfl rfl ?_
      · exact ⟨⟨rfl, rfl, rfl⟩, trivial⟩
      · exact (and_tt' (noB_map _ (fun _ => rfl) _) rfl)
      · exact rfl
      · exact ⟨rfl, rfl, trivial, rfl, rfl, trivial, rfl, rfl, trivial, rfl, rfl, trivial, trivial⟩
    intro n1 x y1 h hl1 hr1
    obtain ⟨s2, s3⟩ := x
    unfold text_Lower_b1 at h
    dsimp only at h
    refine SeqJ.go <| SeqN.go <| SeqJ.go ?_
    refine Br.mk (fun ht => ?_) (fun ht => ?_)
    · replace h := cond_tt h ht
      refine SeqN.go <| SeqJ.go <| SeqJ.go <| chk_elim h fun q4 h => And.intro (fun _ => q4) <| bind_elim h fun x5 hx5 h => optE.mk (c := byteAV x5) (off_get _ hx5) <| SeqN.go <| SeqJ.go <| And.intro (fun hg => hg) <| And.intro (fun hg => (and_r hg)) <| SeqN.go ?_
      refine Br.mk (fun ht => ?_) (fun ht => ?_)
      · replace h := cond_tt h ht
        refine chk_elim h fun q6 h => And.intro (fun _ => q6) <| bind_elim h fun x7 hx7 h => ?_
        have qx7 := (seti_some hx7).1
        have hx7e := (seti_some hx7).2
        refine And.intro ⟨rfl, rfl, rfl, seti_len byteAV qx7 0 rfl⟩ (Exists.intro (x7.map byteAV) (And.intro (fun hw => seti_u8 hw qx7 hx7e) ?_))
        refine SeqN.via (St.of [⟨3, AV.row 0 0 ((a0).length), none⟩, ⟨8, AV.row 0 0 ((a0).length), none⟩, ⟨9, AV.int .i64 (((a0).length : Nat) : Int), none⟩, ⟨10, AV.int .i64 s2, none⟩] [.cells 5 (x7.map byteAV) []] []) ?_ ?_
        · refine Gho.to _ _ _ [] ?_ ?_ ?_ rfl rfl ?_
          · exact ⟨⟨rfl, rfl, rfl⟩, trivial⟩
          · exact (and_tt' (noB_map _ (fun _ => rfl) _) rfl)
          · exact rfl
          · exact ⟨rfl, rfl, trivial, rfl, rfl, trivial, rfl, rfl, trivial, rfl, rfl, trivial, trivial⟩
        replace h := Option.some.inj h
        refine Exists.intro ⟨(n1, ((IntKind.i64.wrap (s2 + (1 : Int))), x7)), hl1 _ h.symm⟩ (And.intro (Nat.lt_succ_self _) ?_)
        refine Gho.to _ _ _ [] ?_ ?_ ?_ rfl rfl ?_
        · exact ⟨⟨rfl, rfl, rfl⟩, trivial⟩
        · exact (and_tt' (noB_map _ (fun _ => rfl) _) rfl)
        · exact rfl
        · exact ⟨rfl, rfl, trivial, rfl, rfl, trivial, rfl, rfl, trivial, rfl, rfl, trivial, trivial⟩
      · replace h := cond_ff h ht
        refine SeqN.go ?_
        replace h := Option.some.inj h
        refine Exists.intro ⟨(n1, ((IntKind.i64.wrap (s2 + (1 : Int))), s3)), hl1 _ h.symm⟩ (And.intro (Nat.lt_succ_self _) ?_)
        refine Gho.to _ _ _ [] ?_ ?_ ?_ rfl rfl ?_
        · exact ⟨⟨rfl, rfl, rfl⟩, trivial⟩
        · exact (and_tt' (noB_map _ (fun _ => rfl) _) rfl)
        · exact rfl
        · exact ⟨rfl, rfl, trivial, rfl, rfl, trivial, rfl, rfl, trivial, rfl, rfl, trivial, trivial⟩
    · replace h := cond_ff h ht
      replace h := Option.some.inj h
      replace h := hr1 _ h.symm
      subst h
      refine Gho.to _ _ _ [] ?_ ?_ ?_ rfl rfl ?_
      · exact ⟨⟨rfl, rfl, rfl⟩, trivial⟩
      · exact (and_tt' (noB_map _ (fun _ => rfl) _) rfl)
      · exact rfl
      · exact ⟨rfl, rfl, trivial, trivial⟩
  · clear hj1
    refine SeqJ.go <| chk_elim h fun q8 h => ?_
    refine And.intro rfl (Exists.intro ((j1).take ((a0).length)) (And.intro (row_text q8) ?_))
    refine SeqN.go ?_
    replace h := Option.some.inj h
    refine RetE.plain ?_
    exact And.intro rfl (And.intro (congrArg (fun r : Bytes => AV.str r) h) rfl)

theorem text_Same_ok (E : Pm.Env) [LaidE E] (a0 : Bytes) (a1 : Bytes) (r : Bool) (h : text_Same a0 a1 = some r) : FnR E Tryz.prog 191 [AV.str a0, AV.str a1] (AV.bool r) false := by
  refine FnR.of_ev (T := T) (rows := []) tOk mixed Tryz.func191 rfl (by kernel_rfl) (by kernel_rfl) rfl fun hwf => ?_
  unfold text_Same at h
  refine SeqJ.go <| SeqN.go <| SeqJ.go <| bind_elim h fun x1 hx1 h => CallH.data _ false rfl (text_Lower_ok E a0 x1 hx1) <| bind_elim h fun x2 hx2 h => CallH.data _ false rfl (text_Lower_ok E a1 x2 hx2) <| SeqN.go ?_
  replace h := Option.some.inj h
  refine RetE.plain ?_
  exact And.intro rfl (And.intro (congrArg (fun r : Bool => AV.bool r) h) rfl)

theorem unicode_utf8_ValidRune_ok (E : Pm.Env) [LaidE E] (a0 : Int) (r : Bool) (h : unicode_utf8_ValidRune a0 = some r) : FnR E Tryz.prog 257 [AV.int .i32 a0] (AV.bool r) false := by
  refine FnR.of_ev (T := T) (rows := []) tOk mixed Tryz.func257 rfl (by kernel_rfl) (by kernel_rfl) rfl fun hwf => ?_
  unfold unicode_utf8_ValidRune at h
  refine SeqJ.go <| SeqN.go <| SeqJ.go <| SeqJ.go <| And.intro (fun hg => hg) <| And.intro (fun hg => (and_r hg)) <| SeqN.go ?_
  refine Br.mk (fun ht => ?_) (fun ht => ?_)
  · replace h := cond_tt h ht
    refine SeqJ.go <| SeqN.go ?_
    replace h := Option.some.inj h
    refine RetE.plain ?_
    exact And.intro rfl (And.intro (congrArg (fun r : Bool => AV.bool r) h) rfl)
  · replace h := cond_ff h ht
    refine SeqJ.go <| And.intro (fun hg => hg) <| And.intro (fun hg => (and_r hg)) <| SeqN.go ?_
    refine Br.mk (fun ht => ?_) (fun ht => ?_)
    · replace h := cond_tt h ht
      refine SeqJ.go ?_
      refine SeqN.via (St.of [⟨2, AV.bool true, none⟩] [] []) ?_ ?_
      · refine Gho.to _ _ _ [] ?_ ?_ ?_ rfl rfl ?_
        · exact trivial
        · exact rfl
        · exact rfl
        · exact ⟨rfl, rfl, trivial, trivial⟩
      replace h := Option.some.inj h
      refine RetE.plain ?_
      exact And.intro rfl (And.intro (congrArg (fun r : Bool => AV.bool r) h) rfl)
    · replace h := cond_ff h ht
      refine SeqN.go <| SeqJ.go ?_
      refine SeqN.via (St.of [⟨2, AV.bool false, none⟩] [] []) ?_ ?_
      · refine Gho.to _ _ _ [] ?_ ?_ ?_ rfl rfl ?_
        · exact trivial
        · exact rfl
        · exact rfl
        · exact ⟨rfl, rfl, trivial, trivial⟩
      replace h := Option.some.inj h
      refine RetE.plain ?_
      exact And.intro rfl (And.intro (congrArg (fun r : Bool => AV.bool r) h) rfl)

theorem strings_IndexRune_ok (E : Pm.Env) [LaidE E] (a0 : Bytes) (a1 : Int) (r : Int) (h : strings_IndexRune a0 a1 = some r) : FnR E Tryz.prog 226 [AV.str a0, AV.int .i32 a1] (AV.int .i64 r) false := by
  refine FnR.of_ev (T := T) (rows := []) tOk mixed Tryz.func226 rfl (by kernel_rfl) (by kernel_rfl) rfl fun hwf => ?_
  unfold strings_IndexRune at h
  refine SeqJ.go <| SeqN.go <| SeqJ.go <| And.intro (fun hg => hg) <| And.intro (fun hg => (and_r hg)) <| SeqN.go ?_
  refine Br.mk (fun ht => ?_) (fun ht => ?_)
  · replace h := cond_tt h ht
    refine SeqJ.go <| bind_elim h fun x1 hx1 h => CallH.data _ false rfl (strings_IndexByte_ok E a0 (IntKind.u8.wrap a1) x1 hx1) <| SeqN.go ?_
    replace h := Option.some.inj h
    refine RetE.plain ?_
    exact And.intro rfl (And.intro (congrArg (fun r : Int => AV.int .i64 r) h) rfl)
  · replace h := cond_ff h ht
    refine SeqJ.go <| SeqN.go ?_
    refine Br.mk (fun ht => ?_) (fun ht => ?_)
    · replace h := cond_tt h ht
      refine SeqJ.go <| SeqJ.go <| SeqN.go ?_
      refine LoopE.img (fun x : Nat => St.of [⟨175, AV.ptr 0 0, none⟩] [.mp (.iter a0 x)] []) (strings_IndexRune_b1 a0) 0 h ?_ ?_
      · refine Gho.to _ _ _ [] ?_ ?_ ?_ rfl rfl ?_
        · exact ⟨rfl, trivial⟩
        · exact rfl
        · exact rfl
        · exact ⟨rfl, rfl, trivial, trivial⟩
      intro n1 x y1 h hl1 hr1
      revert h; revert x; intro s2 h
      unfold strings_IndexRune_b1 at h
      refine SeqJ.go ?_
      refine And.intro (fun ht => ?_) (fun ht => ?_)
      · replace h := cond_tt h ht
        refine SeqN.go <| SeqJ.go ?_
        refine Br.mk (fun _ => ?_) (fun hf => absurd hf (by decide))
        refine SeqN.go <| SeqJ.go <| SeqN.go <| SeqJ.go <| SeqN.go ?_
        refine Br.mk (fun ht => ?_) (fun ht => ?_)
        · replace h := cond_tt h ht
          refine SeqJ.go <| SeqN.go ?_
          replace h := Option.some.inj h
          replace h := hr1 _ h.symm
          refine RetE.plain ?_
          exact And.intro rfl (And.intro (congrArg (fun r : Int => AV.int .i64 r) h) rfl)
        · replace h := cond_ff h ht
          replace h := Option.some.inj h
          refine Exists.intro ⟨(n1, (s2 + widthAt a0 s2)), hl1 _ h.symm⟩ (And.intro (Nat.lt_succ_self _) ?_)
          refine Gho.to _ _ _ [] ?_ ?_ ?_ rfl rfl ?_
          · exact ⟨rfl, trivial⟩
          · exact rfl
          · exact rfl
          · exact ⟨rfl, rfl, trivial, trivial⟩
      · replace h := cond_ff h ht
        refine SeqN.go <| SeqJ.go ?_
        refine Br.mk (fun hf => absurd hf (by decide)) (fun _ => ?_)
        refine SeqN.go <| SeqJ.go <| SeqN.go ?_
        replace h := Option.some.inj h
        replace h := hr1 _ h.symm
        refine RetE.plain ?_
        exact And.intro rfl (And.intro (congrArg (fun r : Int => AV.int .i64 r) h) rfl)
    · replace h := cond_ff h ht
      refine SeqJ.go <| bind_elim h fun x3 hx3 h => CallH.data _ false rfl (unicode_utf8_ValidRune_ok E a1 x3 hx3) <| SeqN.go ?_
      refine Br.mk (fun ht => ?_) (fun ht => ?_)
      · replace h := cond_tt h ht
        refine SeqJ.go ?_
        refine SeqN.via (St.of [⟨4, AV.int .i64 (-1 : Int), none⟩] [] []) ?_ ?_
        · refine Gho.to _ _ _ [] ?_ ?_ ?_ rfl rfl ?_
          · exact trivial
          · exact rfl
          · exact rfl
          · exact ⟨rfl, rfl, trivial, trivial⟩
        replace h := Option.some.inj h
        refine RetE.plain ?_
        exact And.intro rfl (And.intro (congrArg (fun r : Int => AV.int .i64 r) h) rfl)
      · replace h := cond_ff h ht
        refine SeqJ.go ?_
        refine SeqN.via (St.of [⟨0, AV.str a0, none⟩, ⟨7, AV.str (encB a1), none⟩] [] []) ?_ ?_
        · refine Gho.to _ _ _ [] ?_ ?_ ?_ rfl rfl ?_
          · exact trivial
          · exact rfl
          · exact rfl
          · exact ⟨rfl, rfl, trivial, rfl, rfl, trivial, trivial⟩
        refine SeqJ.go <| NormE.same <| SeqN.go <| SeqJ.go <| SeqN.go <| SeqJ.go <| SeqN.go <| SeqJ.go ?_
        refine LoopE.img (fun x : Int => St.of [⟨0, AV.str a0, none⟩, ⟨7, AV.str (encB a1), none⟩, ⟨8, AV.int .i64 (IntKind.i64.wrap (((encB a1).length : Int) - (1 : Int))), none⟩, ⟨9, AV.int .i64 x, none⟩] [] []) (strings_IndexRune_b2 a0 a1) (IntKind.i64.wrap (((encB a1).length : Int) - (1 : Int))) h ?_ ?_
        · refine Gho.to _ _ _ [] ?_ ?_ ?_ rfl rfl ?_
          · exact trivial
          · exact rfl
          · exact rfl
          · exact ⟨rfl, rfl, trivial, rfl, rfl, trivial, rfl, rfl, trivial, rfl, rfl, trivial, trivial⟩
        intro n2 x y2 h hl2 hr2
        revert h; revert x; intro s4 h
        unfold strings_IndexRune_b2 at h
        refine SeqJ.go <| SeqJ.go <| NormE.same <| SeqN.go ?_
        refine Br.mk (fun ht => ?_) (fun ht => ?_)
        · replace h := cond_tt h ht
          refine SeqN.go <| SeqJ.go <| SeqJ.go <| bind_elim h fun x5 hx5 h => ?_
          refine Exists.intro x5 (And.intro (fun hg => idx_some hx5) ?_)
          refine bind_elim h fun x6 hx6 h => ?_
          refine Exists.intro x6 (And.intro (fun hg => idx_some hx6) ?_)
          refine And.intro (by kernel_rfl) <| SeqN.go ?_
          refine Br.mk (fun ht => ?_) (fun ht => ?_)
          · replace h := cond_tt h ht
            refine SeqJ.go <| bind_elim h fun x7 hx7 h => ?_
            have qx7 := (slc_some hx7).1
            have hx7e := (slc_some hx7).2
            refine And.intro (fun _ => qx7) <| NormE.to (AV.str x7) (fun _ => congrArg AV.str hx7e.symm) <| bind_elim h fun x8 hx8 h => ?_
            refine Exists.intro x8 (And.intro (fun hg => idx_some hx8) ?_)
            refine bind_elim h fun x9 hx9 h => CallH.data _ false rfl (strings_IndexByte_ok E x7 (x8.toNat : Int) x9 hx9) <| And.intro (by kernel_rfl) ?_
            refine SeqN.via (St.of [⟨0, AV.str a0, none⟩, ⟨7, AV.str (encB a1), none⟩, ⟨8, AV.int .i64 (IntKind.i64.wrap (((encB a1).length : Int) - (1 : Int))), none⟩, ⟨9, AV.int .i64 s4, none⟩, ⟨11, AV.int .i64 x9, none⟩] [] []) ?_ ?_
            · refine Gho.to _ _ _ [] ?_ ?_ ?_ rfl rfl ?_
              · exact trivial
              · exact rfl
              · exact rfl
              · exact ⟨rfl, rfl, trivial, rfl, rfl, trivial, rfl, rfl, trivial, rfl, rfl, trivial, rfl, rfl, trivial, trivial⟩
            refine SeqJ.go <| SeqJ.go <| SeqN.go ?_
            refine Br.mk (fun ht => ?_) (fun ht => ?_)
            · replace h := cond_tt h ht
              refine SeqJ.go <| SeqN.go ?_
              replace h := Option.some.inj h
              replace h := hr2 _ h.symm
              refine RetE.plain ?_
              exact And.intro rfl (And.intro (congrArg (fun r : Int => AV.int .i64 r) h) rfl)
            · replace h := cond_ff h ht
              refine SeqN.go <| SeqN.go <| SeqJ.go <| SeqJ.go <| SeqN.go ?_
              refine LoopE.img (fun x : Int => St.of [⟨0, AV.str a0, none⟩, ⟨7, AV.str (encB a1), none⟩, ⟨8, AV.int .i64 (IntKind.i64.wrap (((encB a1).length : Int) - (1 : Int))), none⟩, ⟨9, AV.int .i64 (IntKind.i64.wrap (s4 + (IntKind.i64.wrap (x9 + (1 : Int))))), none⟩, ⟨12, AV.int .i64 x, none⟩] [] []) (strings_IndexRune_b3 a0 a1 s4 x9) (1 : Int) h ?_ ?_
              · refine Gho.to _ _ _ [] ?_ ?_ ?_ rfl rfl ?_
                · exact trivial
                · exact rfl
                · exact rfl
                · exact ⟨rfl, rfl, trivial, rfl, rfl, trivial, rfl, rfl, trivial, rfl, rfl, trivial, rfl, rfl, trivial, trivial⟩
              intro n3 x y3 h hl3 hr3
              revert h; revert x; intro s10 h
              unfold strings_IndexRune_b3 at h
              refine SeqJ.go <| SeqJ.go <| NormE.same <| SeqN.go ?_
              refine Br.mk (fun ht => ?_) (fun ht => ?_)
              · replace h := cond_tt h ht
                refine SeqN.go <| SeqJ.go <| SeqJ.go <| bind_elim h fun x11 hx11 h => ?_
                refine Exists.intro x11 (And.intro (fun hg => idx_some hx11) ?_)
                refine bind_elim h fun x12 hx12 h => ?_
                refine Exists.intro x12 (And.intro (fun hg => idx_some hx12) ?_)
                refine And.intro (by kernel_rfl) <| SeqN.go ?_
                refine Br.mk (fun ht => ?_) (fun ht => ?_)
                · replace h := cond_tt h ht
                  cases h
                · replace h := cond_ff h ht
                  refine SeqN.go ?_
                  replace h := Option.some.inj h
                  refine Exists.intro ⟨(n3, (IntKind.i64.wrap (s10 + (1 : Int)))), hl3 _ h.symm⟩ (And.intro (Nat.lt_succ_self _) ?_)
                  refine Gho.to _ _ _ [] ?_ ?_ ?_ rfl rfl ?_
                  · exact trivial
                  · exact rfl
                  · exact rfl
                  · exact ⟨rfl, rfl, trivial, rfl, rfl, trivial, rfl, rfl, trivial, rfl, rfl, trivial, rfl, rfl, trivial, trivial⟩
              · replace h := cond_ff h ht
                refine SeqN.go <| SeqJ.go <| SeqJ.go <| SeqN.go ?_
                replace h := Option.some.inj h
                replace h := hr3 _ h.symm
                replace h := hr2 _ h.symm
                refine RetE.plain ?_
                exact And.intro rfl (And.intro (congrArg (fun r : Int => AV.int .i64 r) h) rfl)
          · replace h := cond_ff h ht
            refine SeqN.go <| SeqJ.go <| SeqJ.go <| SeqN.go ?_
            refine LoopE.img (fun x : Int => St.of [⟨0, AV.str a0, none⟩, ⟨7, AV.str (encB a1), none⟩, ⟨8, AV.int .i64 (IntKind.i64.wrap (((encB a1).length : Int) - (1 : Int))), none⟩, ⟨9, AV.int .i64 s4, none⟩, ⟨12, AV.int .i64 x, none⟩] [] []) (strings_IndexRune_b4 a0 a1 s4) (1 : Int) h ?_ ?_
            · refine Gho.to _ _ _ [] ?_ ?_ ?_ rfl rfl ?_
              · exact trivial
              · exact rfl
              · exact rfl
              · exact ⟨rfl, rfl, trivial, rfl, rfl, trivial, rfl, rfl, trivial, rfl, rfl, trivial, rfl, rfl, trivial, trivial⟩
            intro n4 x y4 h hl4 hr4
            revert h; revert x; intro s13 h
            unfold strings_IndexRune_b4 at h
            refine SeqJ.go <| SeqJ.go <| NormE.same <| SeqN.go ?_
            refine Br.mk (fun ht => ?_) (fun ht => ?_)
            · replace h := cond_tt h ht
              refine SeqN.go <| SeqJ.go <| SeqJ.go <| bind_elim h fun x14 hx14 h => ?_
              refine Exists.intro x14 (And.intro (fun hg => idx_some hx14) ?_)
              refine bind_elim h fun x15 hx15 h => ?_
              refine Exists.intro x15 (And.intro (fun hg => idx_some hx15) ?_)
              refine And.intro (by kernel_rfl) <| SeqN.go ?_
              refine Br.mk (fun ht => ?_) (fun ht => ?_)
              · replace h := cond_tt h ht
                cases h
              · replace h := cond_ff h ht
                refine SeqN.go ?_
                replace h := Option.some.inj h
                refine Exists.intro ⟨(n4, (IntKind.i64.wrap (s13 + (1 : Int)))), hl4 _ h.symm⟩ (And.intro (Nat.lt_succ_self _) ?_)
                refine Gho.to _ _ _ [] ?_ ?_ ?_ rfl rfl ?_
                · exact trivial
                · exact rfl
                · exact rfl
                · exact ⟨rfl, rfl, trivial, rfl, rfl, trivial, rfl, rfl, trivial, rfl, rfl, trivial, rfl, rfl, trivial, trivial⟩
            · replace h := cond_ff h ht
              refine SeqN.go <| SeqJ.go <| SeqJ.go <| SeqN.go ?_
              replace h := Option.some.inj h
              replace h := hr4 _ h.symm
              replace h := hr2 _ h.symm
              refine RetE.plain ?_
              exact And.intro rfl (And.intro (congrArg (fun r : Int => AV.int .i64 r) h) rfl)
        · replace h := cond_ff h ht
          refine SeqN.go <| SeqJ.go <| SeqJ.go <| SeqN.go ?_
          replace h := Option.some.inj h
          replace h := hr2 _ h.symm
          refine RetE.plain ?_
          exact And.intro rfl (And.intro (congrArg (fun r : Int => AV.int .i64 r) h) rfl)

theorem strings_shouldUseASCIISet_ok (E : Pm.Env) [LaidE E] (a0 : Int) (r : Bool) (h : strings_shouldUseASCIISet a0 = some r) : FnR E Tryz.prog 227 [AV.int .i64 a0] (AV.bool r) false := by
  refine FnR.of_ev (T := T) (rows := []) tOk mixed Tryz.func227 rfl (by kernel_rfl) (by kernel_rfl) rfl fun hwf => ?_
  unfold strings_shouldUseASCIISet at h
  refine SeqJ.go <| SeqN.go <| SeqJ.go <| SeqN.go ?_
  replace h := Option.some.inj h
  refine RetE.plain ?_
  exact And.intro rfl (And.intro (congrArg (fun r : Bool => AV.bool r) h) rfl)

theorem strings_makeASCIISet_ok (E : Pm.Env) [LaidE E] (a0 : Bytes) (r : ((List Bool) × Bool)) (h : strings_makeASCIISet a0 = some r) : FnR E Tryz.prog 228 [AV.str a0] (AV.tup [AV.agg ((r.1).map AV.bool), AV.bool (r.2)]) false := by
  refine FnR.of_ev (T := T) (rows := []) tOk mixed Tryz.func228 rfl (by kernel_rfl) (by kernel_rfl) rfl fun hwf => ?_
  unfold strings_makeASCIISet at h
  refine SeqJ.go <| And.intro rfl <| SeqN.go <| SeqJ.go <| SeqJ.go <| SeqN.go ?_
  refine LoopE.img (fun x : (Int × (List Bool)) => St.of [⟨0, AV.str a0, none⟩, ⟨2, AV.ptr 0 0, none⟩, ⟨4, AV.int .i64 (x.1), none⟩] [.cells 245 ((x.2).map AV.bool) []] []) (strings_makeASCIISet_b1 a0) ((0 : Int), (List.replicate 256 false)) h ?_ ?_
  · refine Gho.to _ _ _ [] ?_ ?_ ?_ rfl rfl ?_
    · exact ⟨⟨rfl, rfl, rfl⟩, trivial⟩
    · exact (and_tt' (noB_map _ (fun _ => rfl) _) rfl)
    · exact rfl
    · exact ⟨rfl, rfl, trivial, rfl, rfl, trivial, rfl, rfl, trivial, trivial⟩
  intro n1 x y1 h hl1 hr1
  obtain ⟨s1, s2⟩ := x
  unfold strings_makeASCIISet_b1 at h
  dsimp only at h
  refine SeqJ.go <| SeqJ.go <| NormE.same <| SeqN.go ?_
  refine Br.mk (fun ht => ?_) (fun ht => ?_)
  · replace h := cond_tt h ht
    refine SeqN.go <| SeqJ.go <| SeqJ.go <| bind_elim h fun x3 hx3 h => ?_
    refine Exists.intro x3 (And.intro (fun hg => idx_some hx3) ?_)
    refine SeqN.go <| SeqJ.go <| SeqJ.go <| SeqN.go ?_
    refine Br.mk (fun ht => ?_) (fun ht => ?_)
    · replace h := cond_tt h ht
      refine SeqJ.go <| chk_elim h fun q4 h => And.intro ⟨Nat.le_of_ble_eq_true rfl, arr_fits _ q4⟩ <| NormE.to (AV.agg (s2.map AV.bool)) (fun _ => arr_load _ q4) <| chk_elim h fun q5 h => ?_
      refine And.intro ⟨rfl, arr_len _ q5.1, rfl, arr_fits _ q5.2⟩ (Exists.intro (s2.map AV.bool) (And.intro (fun _ => arr_store _ _ q5.1 (by rw [List.length_map]; exact q5.2)) ?_))
      refine SeqN.go <| chk_elim h fun hd1 h => ?_
      replace h := Option.some.inj h
      replace h := hr1 _ h.symm
      refine RetE.plain ?_
      refine And.intro ⟨Nat.le_of_ble_eq_true rfl, arr_fits _ hd1⟩ (Exists.intro (AV.agg (s2.map AV.bool)) (And.intro (arr_load _ hd1) ?_))
      exact And.intro (and_tt' (puB_map _ (fun _ => rfl) _) (and_tt' rfl rfl)) (And.intro (congrArg (fun r : ((List Bool) × Bool) => AV.tup [AV.agg ((r.1).map AV.bool), AV.bool (r.2)]) h) rfl)
    · replace h := cond_ff h ht
      refine SeqN.go <| chk_elim h fun q6 h => And.intro (fun _ => q6) <| bind_elim h fun x7 hx7 h => ?_
      have qx7 := (seti_some hx7).1
      have hx7e := (seti_some hx7).2
      refine And.intro ⟨rfl, rfl, rfl, seti_len AV.bool qx7 0 rfl⟩ (Exists.intro (x7.map AV.bool) (And.intro (fun hw => seti_map' AV.bool _ qx7 hx7e) ?_))
      refine SeqN.go ?_
      replace h := Option.some.inj h
      refine Exists.intro ⟨(n1, ((IntKind.i64.wrap (s1 + (1 : Int))), x7)), hl1 _ h.symm⟩ (And.intro (Nat.lt_succ_self _) ?_)
      refine Gho.to _ _ _ [] ?_ ?_ ?_ rfl rfl ?_
      · exact ⟨⟨rfl, rfl, rfl⟩, trivial⟩
      · exact (and_tt' (noB_map _ (fun _ => rfl) _) rfl)
      · exact rfl
      · exact ⟨rfl, rfl, trivial, rfl, rfl, trivial, rfl, rfl, trivial, trivial⟩
  · replace h := cond_ff h ht
    refine SeqN.go <| SeqJ.go <| chk_elim h fun q8 h => And.intro ⟨Nat.le_of_ble_eq_true rfl, arr_fits _ q8⟩ <| NormE.to (AV.agg (s2.map AV.bool)) (fun _ => arr_load _ q8) <| chk_elim h fun q9 h => ?_
    refine And.intro ⟨rfl, arr_len _ q9.1, rfl, arr_fits _ q9.2⟩ (Exists.intro (s2.map AV.bool) (And.intro (fun _ => arr_store _ _ q9.1 (by rw [List.length_map]; exact q9.2)) ?_))
    refine SeqN.go <| chk_elim h fun hd1 h => ?_
    replace h := Option.some.inj h
    replace h := hr1 _ h.symm
    refine RetE.plain ?_
    refine And.intro ⟨Nat.le_of_ble_eq_true rfl, arr_fits _ hd1⟩ (Exists.intro (AV.agg (s2.map AV.bool)) (And.intro (arr_load _ hd1) ?_))
    exact And.intro (and_tt' (puB_map _ (fun _ => rfl) _) (and_tt' rfl rfl)) (And.intro (congrArg (fun r : ((List Bool) × Bool) => AV.tup [AV.agg ((r.1).map AV.bool), AV.bool (r.2)]) h) rfl)

theorem strings_asciiSet_contains_ok (E : Pm.Env) [LaidE E] (a0 : (List Bool)) (a1 : Int) (r : Bool) (h : strings_asciiSet_contains a0 a1 = some r) : FnR E Tryz.prog 229 [AV.iptr (a0.map AV.bool), AV.int .u8 a1] (AV.bool r) false := by
  refine FnR.of_ev (T := T) (rows := []) tOk mixed Tryz.func229 rfl (by kernel_rfl) (by kernel_rfl) rfl fun hwf => ?_
  unfold strings_asciiSet_contains at h
  refine SeqJ.go <| SeqN.go <| SeqJ.go <| chk_elim h fun q1 h => And.intro (fun _ => q1) <| bind_elim h fun x2 hx2 h => optE.mk (c := AV.bool x2) (drop_get _ hx2) <| SeqN.go ?_
  replace h := Option.some.inj h
  refine RetE.plain ?_
  exact And.intro rfl (And.intro (congrArg (fun r : Bool => AV.bool r) h) rfl)

theorem strings_IndexAny_ok (E : Pm.Env) [LaidE E] (a0 : Bytes) (a1 : Bytes) (r : Int) (h : strings_IndexAny a0 a1 = some r) : FnR E Tryz.prog 192 [AV.str a0, AV.str a1] (AV.int .i64 r) false := by
  refine FnR.of_ev (T := T) (rows := []) tOk mixed Tryz.func192 rfl (by kernel_rfl) (by kernel_rfl) rfl fun hwf => ?_
  unfold strings_IndexAny at h
  refine SeqJ.go <| SeqN.go <| SeqJ.go <| SeqJ.go <| SeqN.go ?_
  refine Br.mk (fun ht => ?_) (fun ht => ?_)
  · replace h := cond_tt h ht
    refine SeqJ.go <| SeqN.go ?_
    replace h := Option.some.inj h
    refine RetE.plain ?_
    exact And.intro rfl (And.intro (congrArg (fun r : Int => AV.int .i64 r) h) rfl)
  · replace h := cond_ff h ht
    refine SeqN.go <| SeqJ.go <| SeqJ.go <| NormE.same <| SeqN.go ?_
    refine Br.mk (fun ht => ?_) (fun ht => ?_)
    · replace h := cond_tt h ht
      refine SeqJ.go <| bind_elim h fun x1 hx1 h => ?_
      refine Exists.intro x1 (And.intro (fun hg => idx_some hx1) ?_)
      refine SeqN.go <| SeqJ.go <| SeqJ.go <| SeqN.go ?_
      refine Br.mk (fun ht => ?_) (fun ht => ?_)
      · replace h := cond_tt h ht
        refine SeqN.go <| SeqJ.go <| bind_elim h fun x2 hx2 h => CallH.data _ false rfl (strings_IndexRune_ok E a0 (65533 : Int) x2 hx2) ?_
        refine SeqN.via (St.of [⟨4, AV.int .i64 x2, none⟩] [] []) ?_ ?_
        · refine Gho.to _ _ _ [] ?_ ?_ ?_ rfl rfl ?_
          · exact trivial
          · exact rfl
          · exact rfl
          · exact ⟨rfl, rfl, trivial, trivial⟩
        replace h := Option.some.inj h
        refine RetE.plain ?_
        exact And.intro rfl (And.intro (congrArg (fun r : Int => AV.int .i64 r) h) rfl)
      · replace h := cond_ff h ht
        refine SeqN.go <| SeqJ.go <| bind_elim h fun x3 hx3 h => CallH.data _ false rfl (strings_IndexRune_ok E a0 (IntKind.i32.wrap (x1.toNat : Int)) x3 hx3) ?_
        refine SeqN.via (St.of [⟨4, AV.int .i64 x3, none⟩] [] []) ?_ ?_
        · refine Gho.to _ _ _ [] ?_ ?_ ?_ rfl rfl ?_
          · exact trivial
          · exact rfl
          · exact rfl
          · exact ⟨rfl, rfl, trivial, trivial⟩
        replace h := Option.some.inj h
        refine RetE.plain ?_
        exact And.intro rfl (And.intro (congrArg (fun r : Int => AV.int .i64 r) h) rfl)
    · replace h := cond_ff h ht
      refine SeqN.go <| SeqJ.go <| SeqJ.go <| NormE.same <| bind_elim h fun x4 hx4 h => CallH.data _ false rfl (strings_shouldUseASCIISet_ok E (a0.length : Int) x4 hx4) <| SeqN.go ?_
      refine Br.mk (fun ht => ?_) (fun ht => ?_)
      · replace h := cond_tt h ht
        refine SeqJ.go <| bind_elim h fun x5 hx5 h => CallH.data _ false rfl (strings_makeASCIISet_ok E a1 x5 hx5) <| And.intro rfl <| chk_elim h fun q6 h => ?_
        refine And.intro ⟨rfl, arr_len _ q6, rfl, arr_room rfl⟩ (Exists.intro ((x5.1).map AV.bool) (And.intro (fun _ => arr_store _ _ q6 rfl) ?_))
        refine SeqN.via (St.of [⟨0, AV.str a0, none⟩, ⟨1, AV.str a1, none⟩, ⟨6, AV.ptr 0 0, none⟩, ⟨7, AV.bool (x5.2), none⟩] [.cells 245 ((x5.1).map AV.bool) []] []) ?_ ?_
        · refine Gho.to _ _ _ [] ?_ ?_ ?_ rfl rfl ?_
          · exact ⟨⟨rfl, rfl, rfl⟩, trivial⟩
          · exact (and_tt' (noB_map _ (fun _ => rfl) _) rfl)
          · exact rfl
          · exact ⟨rfl, rfl, trivial, rfl, rfl, trivial, rfl, rfl, trivial, rfl, rfl, trivial, trivial⟩
        refine SeqJ.go <| SeqN.go ?_
        refine Br.mk (fun ht => ?_) (fun ht => ?_)
        · replace h := cond_tt h ht
          refine SeqJ.go <| SeqJ.go <| chk_elim h fun hc1 h => ?_
          refine SeqN.via (St.of [⟨0, AV.str a0, none⟩, ⟨6, AV.iptr ((x5.1).map AV.bool), none⟩, ⟨8, AV.int .i64 (0 : Int), none⟩] [] []) ?_ ?_
          · refine Gho.trans (Gho.fz [0] [(6, AV.iptr ((x5.1).map AV.bool))] ⟨Frz.ptr0 rfl (puB_map _ (fun _ => rfl) _) (by rw [List.length_map]; exact hc1), trivial⟩) ?_
            refine Gho.to _ _ _ [] ?_ ?_ ?_ rfl rfl ?_
            · exact trivial
            · exact rfl
            · exact rfl
            · exact ⟨rfl, rfl, trivial, rfl, rfl, trivial, rfl, rfl, trivial, trivial⟩
          refine LoopE.img (fun x : Int => St.of [⟨0, AV.str a0, none⟩, ⟨6, AV.iptr ((x5.1).map AV.bool), none⟩, ⟨8, AV.int .i64 x, none⟩] [] []) (strings_IndexAny_b1 a0 x5) (0 : Int) h ?_ ?_
          · refine Gho.to _ _ _ [] ?_ ?_ ?_ rfl rfl ?_
            · exact trivial
            · exact rfl
            · exact rfl
            · exact ⟨rfl, rfl, trivial, rfl, rfl, trivial, rfl, rfl, trivial, trivial⟩
          intro n1 x y1 h hl1 hr1
          revert h; revert x; intro s7 h
          unfold strings_IndexAny_b1 at h
          refine SeqJ.go <| SeqJ.go <| NormE.same <| SeqN.go ?_
          refine Br.mk (fun ht => ?_) (fun ht => ?_)
          · replace h := cond_tt h ht
            refine SeqN.go <| SeqJ.go <| SeqJ.go <| bind_elim h fun x8 hx8 h => ?_
            refine Exists.intro x8 (And.intro (fun hg => idx_some hx8) ?_)
            refine bind_elim h fun x9 hx9 h => CallH.data _ false rfl (strings_asciiSet_contains_ok E (x5.1) (x8.toNat : Int) x9 hx9) <| SeqN.go ?_
            refine Br.mk (fun ht => ?_) (fun ht => ?_)
            · replace h := cond_tt h ht
              refine SeqJ.go <| SeqN.go ?_
              replace h := Option.some.inj h
              replace h := hr1 _ h.symm
              refine RetE.plain ?_
              exact And.intro rfl (And.intro (congrArg (fun r : Int => AV.int .i64 r) h) rfl)
            · replace h := cond_ff h ht
              refine SeqN.go ?_
              replace h := Option.some.inj h
              refine Exists.intro ⟨(n1, (IntKind.i64.wrap (s7 + (1 : Int)))), hl1 _ h.symm⟩ (And.intro (Nat.lt_succ_self _) ?_)
              refine Gho.to _ _ _ [] ?_ ?_ ?_ rfl rfl ?_
              · exact trivial
              · exact rfl
              · exact rfl
              · exact ⟨rfl, rfl, trivial, rfl, rfl, trivial, rfl, rfl, trivial, trivial⟩
          · replace h := cond_ff h ht
            refine SeqN.go <| SeqJ.go <| SeqN.go ?_
            replace h := Option.some.inj h
            replace h := hr1 _ h.symm
            refine RetE.plain ?_
            exact And.intro rfl (And.intro (congrArg (fun r : Int => AV.int .i64 r) h) rfl)
        · replace h := cond_ff h ht
          refine SeqN.go <| SeqJ.go <| SeqJ.go <| SeqN.go ?_
          refine LoopE.img (fun x : Nat => St.of [⟨1, AV.str a1, none⟩, ⟨45, AV.ptr 1 0, none⟩] [.dead, .mp (.iter a0 x)] []) (strings_IndexAny_b2 a0 a1) 0 h ?_ ?_
          · refine Gho.to _ _ _ [] ?_ ?_ ?_ rfl rfl ?_
            · exact ⟨trivial, ⟨rfl, trivial⟩⟩
            · exact rfl
            · exact rfl
            · exact ⟨rfl, rfl, trivial, rfl, rfl, trivial, trivial⟩
          intro n2 x y2 h hl2 hr2
          revert h; revert x; intro s10 h
          unfold strings_IndexAny_b2 at h
          refine SeqJ.go ?_
          refine And.intro (fun ht => ?_) (fun ht => ?_)
          · replace h := cond_tt h ht
            refine SeqN.go <| SeqJ.go ?_
            refine Br.mk (fun _ => ?_) (fun hf => absurd hf (by decide))
            refine SeqN.go <| SeqJ.go <| SeqN.go <| SeqJ.go <| bind_elim h fun x11 hx11 h => CallH.data _ false rfl (strings_IndexRune_ok E a1 ((runeAt a0 s10 : Nat) : Int) x11 hx11) <| SeqN.go ?_
            refine Br.mk (fun ht => ?_) (fun ht => ?_)
            · replace h := cond_tt h ht
              refine SeqJ.go <| SeqN.go ?_
              replace h := Option.some.inj h
              replace h := hr2 _ h.symm
              refine RetE.plain ?_
              exact And.intro rfl (And.intro (congrArg (fun r : Int => AV.int .i64 r) h) rfl)
            · replace h := cond_ff h ht
              replace h := Option.some.inj h
              refine Exists.intro ⟨(n2, (s10 + widthAt a0 s10)), hl2 _ h.symm⟩ (And.intro (Nat.lt_succ_self _) ?_)
              refine Gho.to _ _ _ [] ?_ ?_ ?_ rfl rfl ?_
              · exact ⟨trivial, ⟨rfl, trivial⟩⟩
              · exact rfl
              · exact rfl
              · exact ⟨rfl, rfl, trivial, rfl, rfl, trivial, trivial⟩
          · replace h := cond_ff h ht
            refine SeqN.go <| SeqJ.go ?_
            refine Br.mk (fun hf => absurd hf (by decide)) (fun _ => ?_)
            refine SeqN.go <| SeqJ.go <| SeqN.go ?_
            replace h := Option.some.inj h
            replace h := hr2 _ h.symm
            refine RetE.plain ?_
            exact And.intro rfl (And.intro (congrArg (fun r : Int => AV.int .i64 r) h) rfl)
      · replace h := cond_ff h ht
        refine SeqN.go <| SeqJ.go <| SeqJ.go <| SeqN.go ?_
        refine LoopE.img (fun x : Nat => St.of [⟨1, AV.str a1, none⟩, ⟨45, AV.ptr 0 0, none⟩] [.mp (.iter a0 x)] []) (strings_IndexAny_b3 a0 a1) 0 h ?_ ?_
        · refine Gho.to _ _ _ [] ?_ ?_ ?_ rfl rfl ?_
          · exact ⟨rfl, trivial⟩
          · exact rfl
          · exact rfl
          · exact ⟨rfl, rfl, trivial, rfl, rfl, trivial, trivial⟩
        intro n3 x y3 h hl3 hr3
        revert h; revert x; intro s12 h
        unfold strings_IndexAny_b3 at h
        refine SeqJ.go ?_
        refine And.intro (fun ht => ?_) (fun ht => ?_)
        · replace h := cond_tt h ht
          refine SeqN.go <| SeqJ.go ?_
          refine Br.mk (fun _ => ?_) (fun hf => absurd hf (by decide))
          refine SeqN.go <| SeqJ.go <| SeqN.go <| SeqJ.go <| bind_elim h fun x13 hx13 h => CallH.data _ false rfl (strings_IndexRune_ok E a1 ((runeAt a0 s12 : Nat) : Int) x13 hx13) <| SeqN.go ?_
          refine Br.mk (fun ht => ?_) (fun ht => ?_)
          · replace h := cond_tt h ht
            refine SeqJ.go <| SeqN.go ?_
            replace h := Option.some.inj h
            replace h := hr3 _ h.symm
            refine RetE.plain ?_
            exact And.intro rfl (And.intro (congrArg (fun r : Int => AV.int .i64 r) h) rfl)
          · replace h := cond_ff h ht
            replace h := Option.some.inj h
            refine Exists.intro ⟨(n3, (s12 + widthAt a0 s12)), hl3 _ h.symm⟩ (And.intro (Nat.lt_succ_self _) ?_)
            refine Gho.to _ _ _ [] ?_ ?_ ?_ rfl rfl ?_
            · exact ⟨rfl, trivial⟩
            · exact rfl
            · exact rfl
            · exact ⟨rfl, rfl, trivial, rfl, rfl, trivial, trivial⟩
        · replace h := cond_ff h ht
          refine SeqN.go <| SeqJ.go ?_
          refine Br.mk (fun hf => absurd hf (by decide)) (fun _ => ?_)
          refine SeqN.go <| SeqJ.go <| SeqN.go ?_
          replace h := Option.some.inj h
          replace h := hr3 _ h.symm
          refine RetE.plain ?_
          exact And.intro rfl (And.intro (congrArg (fun r : Int => AV.int .i64 r) h) rfl)

theorem bytealg_LastIndexByteString_ok (E : Pm.Env) [LaidE E] (a0 : Bytes) (a1 : Int) (r : Int) (h : bytealg_LastIndexByteString a0 a1 = some r) : FnR E Tryz.prog 258 [AV.str a0, AV.int .u8 a1] (AV.int .i64 r) false := by
  refine FnR.of_ev (T := T) (rows := []) tOk mixed Tryz.func258 rfl (by kernel_rfl) (by kernel_rfl) rfl fun hwf => ?_
  unfold bytealg_LastIndexByteString at h
  refine SeqJ.go <| SeqN.go <| SeqJ.go <| SeqJ.go <| NormE.same <| SeqN.go ?_
  refine LoopE.img (fun x : Int => St.of [⟨0, AV.str a0, none⟩, ⟨1, AV.int .u8 a1, none⟩, ⟨5, AV.int .i64 x, none⟩] [] []) (bytealg_LastIndexByteString_b1 a0 a1) (IntKind.i64.wrap ((a0.length : Int) - (1 : Int))) h ?_ ?_
  · refine Gho.to _ _ _ [] ?_ ?_ ?_ rfl rfl ?_
    · exact trivial
    · exact rfl
    · exact rfl
    · exact ⟨rfl, rfl, trivial, rfl, rfl, trivial, rfl, rfl, trivial, trivial⟩
  intro n1 x y1 h hl1 hr1
  revert h; revert x; intro s1 h
  unfold bytealg_LastIndexByteString_b1 at h
  refine SeqJ.go <| SeqJ.go <| SeqN.go ?_
  refine Br.mk (fun ht => ?_) (fun ht => ?_)
  · replace h := cond_tt h ht
    refine SeqN.go <| SeqJ.go <| SeqJ.go <| bind_elim h fun x2 hx2 h => ?_
    refine Exists.intro x2 (And.intro (fun hg => idx_some hx2) ?_)
    refine SeqN.go ?_
    refine Br.mk (fun ht => ?_) (fun ht => ?_)
    · replace h := cond_tt h ht
      refine SeqJ.go <| SeqN.go ?_
      replace h := Option.some.inj h
      replace h := hr1 _ h.symm
      refine RetE.plain ?_
      exact And.intro rfl (And.intro (congrArg (fun r : Int => AV.int .i64 r) h) rfl)
    · replace h := cond_ff h ht
      refine SeqN.go ?_
      replace h := Option.some.inj h
      refine Exists.intro ⟨(n1, (IntKind.i64.wrap (s1 - (1 : Int)))), hl1 _ h.symm⟩ (And.intro (Nat.lt_succ_self _) ?_)
      refine Gho.to _ _ _ [] ?_ ?_ ?_ rfl rfl ?_
      · exact trivial
      · exact rfl
      · exact rfl
      · exact ⟨rfl, rfl, trivial, rfl, rfl, trivial, rfl, rfl, trivial, trivial⟩
  · replace h := cond_ff h ht
    refine SeqN.go <| SeqJ.go <| SeqN.go ?_
    replace h := Option.some.inj h
    replace h := hr1 _ h.symm
    refine RetE.plain ?_
    exact And.intro rfl (And.intro (congrArg (fun r : Int => AV.int .i64 r) h) rfl)

theorem strings_LastIndexByte_ok (E : Pm.Env) [LaidE E] (a0 : Bytes) (a1 : Int) (r : Int) (h : strings_LastIndexByte a0 a1 = some r) : FnR E Tryz.prog 230 [AV.str a0, AV.int .u8 a1] (AV.int .i64 r) false := by
  refine FnR.of_ev (T := T) (rows := []) tOk mixed Tryz.func230 rfl (by kernel_rfl) (by kernel_rfl) rfl fun hwf => ?_
  unfold strings_LastIndexByte at h
  refine SeqJ.go <| SeqN.go <| SeqJ.go <| bind_elim h fun x1 hx1 h => CallH.data _ false rfl (bytealg_LastIndexByteString_ok E a0 a1 x1 hx1) <| SeqN.go ?_
  replace h := Option.some.inj h
  refine RetE.plain ?_
  exact And.intro rfl (And.intro (congrArg (fun r : Int => AV.int .i64 r) h) rfl)

theorem number_read_uint64_ok (E : Pm.Env) [LaidE E] (a0 : Bytes) (a1 : Int) (a2 : FuncId) (a2c : List AV) (a2i : Int → Option Int) (a2h : ∀ (x0 : Int) (r : Int), a2i x0 = some r → FnR E Tryz.prog a2 ([AV.int .u8 x0] ++ a2c) (AV.int .u64 r) false) (a2p : a2c.all AV.puB = true) (r : (Int × Int)) (h : number_read_uint64 a0 a1 a2i = some r) : FnR E Tryz.prog 149 [AV.str a0, AV.int .u64 a1, AV.fn a2 [] a2c] (AV.tup [AV.int .u64 (r.1), AV.int .i64 (r.2)]) false := by
  refine FnR.of_ev (T := T) (rows := []) tOk mixed Tryz.func149 rfl (by kernel_rfl) (by kernel_rfl) rfl fun hwf => ?_
  unfold number_read_uint64 at h
  refine SeqJ.go <| SeqN.go <| SeqJ.go <| SeqJ.go <| SeqN.go ?_
  refine Br.mk (fun ht => ?_) (fun ht => ?_)
  · replace h := cond_tt h ht
    refine SeqJ.go <| SeqN.go ?_
    replace h := Option.some.inj h
    refine RetE.plain ?_
    exact And.intro rfl (And.intro (congrArg (fun r : (Int × Int) => AV.tup [AV.int .u64 (r.1), AV.int .i64 (r.2)]) h) rfl)
  · replace h := cond_ff h ht
    refine SeqN.go <| SeqJ.go <| SeqN.go <| SeqJ.go <| SeqJ.go <| NormE.same <| SeqN.go ?_
    refine LoopE.img (fun x : (Int × Bool × Int) => St.of [⟨0, AV.str a0, none⟩, ⟨1, AV.int .u64 a1, none⟩, ⟨2, AV.fn a2 [] a2c, none⟩, ⟨8, AV.int .u64 (x.1), none⟩, ⟨9, AV.bool (x.2.1), none⟩, ⟨16, AV.int .i64 (a0.length : Int), none⟩, ⟨17, AV.int .i64 (x.2.2), none⟩] [] []) (number_read_uint64_b1 a0 a1 a2i) ((IntKind.u64.wrap (0 : Int)), false, (0 : Int)) h ?_ ?_
    · refine Gho.to _ _ _ [] ?_ ?_ ?_ rfl rfl ?_
      · exact trivial
      · exact rfl
      · exact rfl
      · exact ⟨rfl, rfl, trivial, rfl, rfl, trivial, rfl, (noB_fn a2p _), trivial, rfl, rfl, trivial, rfl, rfl, trivial, rfl, rfl, trivial, rfl, rfl, trivial, trivial⟩
    intro n1 x y1 h hl1 hr1
    obtain ⟨s1, s2, s3⟩ := x
    unfold number_read_uint64_b1 at h
    dsimp only at h
    refine SeqJ.go <| SeqN.go <| SeqJ.go ?_
    refine Br.mk (fun ht => ?_) (fun ht => ?_)
    · replace h := cond_tt h ht
      refine SeqN.go <| SeqJ.go <| SeqJ.go <| SeqN.go <| SeqJ.go <| bind_elim h fun x4 hx4 h => ?_
      refine Exists.intro x4 (And.intro (fun hg => idx_some hx4) ?_)
      refine bind_elim h fun x5 hx5 h => CallH.data _ false (puD_app rfl (puD_of a2p)) (a2h (x4.toNat : Int) x5 hx5) <| SeqN.go <| SeqJ.go <| SeqJ.go <| SeqN.go ?_
      refine Br.mk (fun ht => ?_) (fun ht => ?_)
      · replace h := cond_tt h ht
        refine SeqJ.go <| SeqN.go ?_
        replace h := Option.some.inj h
        replace h := hr1 _ h.symm
        refine RetE.plain ?_
        exact And.intro rfl (And.intro (congrArg (fun r : (Int × Int) => AV.tup [AV.int .u64 (r.1), AV.int .i64 (r.2)]) h) rfl)
      · replace h := cond_ff h ht
        refine SeqN.go <| SeqJ.go ?_
        refine SeqN.via (St.of [⟨0, AV.str a0, none⟩, ⟨1, AV.int .u64 a1, none⟩, ⟨2, AV.fn a2 [] a2c, none⟩, ⟨8, AV.int .u64 (IntKind.u64.wrap ((IntKind.u64.wrap (s1 * a1)) + x5)), none⟩, ⟨9, AV.bool s2, none⟩, ⟨16, AV.int .i64 (a0.length : Int), none⟩, ⟨17, AV.int .i64 s3, none⟩] [] []) ?_ ?_
        · refine Gho.to _ _ _ [] ?_ ?_ ?_ rfl rfl ?_
          · exact trivial
          · exact rfl
          · exact rfl
          · exact ⟨rfl, rfl, trivial, rfl, rfl, trivial, rfl, (noB_fn a2p _), trivial, rfl, rfl, trivial, rfl, rfl, trivial, rfl, rfl, trivial, rfl, rfl, trivial, trivial⟩
        refine SeqJ.go <| SeqN.go ?_
        refine Br.mk (fun ht => ?_) (fun ht => ?_)
        · replace h := cond_tt h ht
          refine SeqN.go ?_
          replace h := Option.some.inj h
          refine Exists.intro ⟨(n1, ((0 : Int), true, (IntKind.i64.wrap (s3 + (1 : Int))))), hl1 _ h.symm⟩ (And.intro (Nat.lt_succ_self _) ?_)
          refine Gho.to _ _ _ [] ?_ ?_ ?_ rfl rfl ?_
          · exact trivial
          · exact rfl
          · exact rfl
          · exact ⟨rfl, rfl, trivial, rfl, rfl, trivial, rfl, (noB_fn a2p _), trivial, rfl, rfl, trivial, rfl, rfl, trivial, rfl, rfl, trivial, rfl, rfl, trivial, trivial⟩
        · replace h := cond_ff h ht
          refine SeqN.go ?_
          replace h := Option.some.inj h
          refine Exists.intro ⟨(n1, ((IntKind.u64.wrap ((IntKind.u64.wrap (s1 * a1)) + x5)), s2, (IntKind.i64.wrap (s3 + (1 : Int))))), hl1 _ h.symm⟩ (And.intro (Nat.lt_succ_self _) ?_)
          refine Gho.to _ _ _ [] ?_ ?_ ?_ rfl rfl ?_
          · exact trivial
          · exact rfl
          · exact rfl
          · exact ⟨rfl, rfl, trivial, rfl, rfl, trivial, rfl, (noB_fn a2p _), trivial, rfl, rfl, trivial, rfl, rfl, trivial, rfl, rfl, trivial, rfl, rfl, trivial, trivial⟩
    · replace h := cond_ff h ht
      refine SeqN.go <| SeqJ.go <| SeqJ.go <| SeqN.go ?_
      refine Br.mk (fun ht => ?_) (fun ht => ?_)
      · replace h := cond_tt h ht
        refine SeqJ.go <| SeqN.go ?_
        replace h := Option.some.inj h
        replace h := hr1 _ h.symm
        refine RetE.plain ?_
        exact And.intro rfl (And.intro (congrArg (fun r : (Int × Int) => AV.tup [AV.int .u64 (r.1), AV.int .i64 (r.2)]) h) rfl)
      · replace h := cond_ff h ht
        refine SeqN.go <| SeqJ.go <| SeqN.go ?_
        replace h := Option.some.inj h
        replace h := hr1 _ h.symm
        refine RetE.plain ?_
        exact And.intro rfl (And.intro (congrArg (fun r : (Int × Int) => AV.tup [AV.int .u64 (r.1), AV.int .i64 (r.2)]) h) rfl)

theorem number_ReadDec_1_ok (E : Pm.Env) [LaidE E] (a0 : Int) (r : Int) (h : number_ReadDec_1 a0 = some r) : FnR E Tryz.prog 150 [AV.int .u8 a0] (AV.int .u64 r) false := by
  refine FnR.of_ev (T := T) (rows := []) tOk mixed Tryz.func150 rfl (by kernel_rfl) (by kernel_rfl) rfl fun hwf => ?_
  unfold number_ReadDec_1 at h
  refine SeqJ.go <| SeqN.go <| SeqJ.go <| SeqN.go ?_
  replace h := Option.some.inj h
  refine RetE.plain ?_
  exact And.intro rfl (And.intro (congrArg (fun r : Int => AV.int .u64 r) h) rfl)

theorem number_ReadDec_ok (E : Pm.Env) [LaidE E] (a0 : Bytes) (r : (Int × Int)) (h : number_ReadDec a0 = some r) : FnR E Tryz.prog 104 [AV.str a0] (AV.tup [AV.int .u64 (r.1), AV.int .i64 (r.2)]) false := by
  refine FnR.of_ev (T := T) (rows := []) tOk mixed Tryz.func104 rfl (by kernel_rfl) (by kernel_rfl) rfl fun hwf => ?_
  unfold number_ReadDec at h
  refine SeqJ.go <| SeqN.go <| SeqJ.go <| bind_elim h fun x1 hx1 h => CallH.data _ false rfl (number_read_uint64_ok E a0 (10 : Int) 150 [] (fun x0 => number_ReadDec_1 x0) (fun x0 r h => number_ReadDec_1_ok E x0 r h) rfl x1 hx1) <| SeqN.go ?_
  replace h := Option.some.inj h
  refine RetE.plain ?_
  exact And.intro rfl (And.intro (congrArg (fun r : (Int × Int) => AV.tup [AV.int .u64 (r.1), AV.int .i64 (r.2)]) h) rfl)

theorem uri_place_ok (E : Pm.Env) [LaidE E] (a0 : Bytes) (a1 : S_Uri) (r : (S_Uri × Bool)) (h : uri_place a0 a1 = some r) : FnR E Tryz.prog 193 [AV.str a0, S_Uri.av a1] (AV.tup [S_Uri.av (r.1), AV.bool (r.2)]) false := by
  refine FnR.of_ev (T := T) (rows := []) tOk mixed Tryz.func193 rfl (by kernel_rfl) (by kernel_rfl) rfl fun hwf => ?_
  unfold uri_place at h
  refine SeqJ.go <| And.intro rfl <| And.intro rfl <| SeqN.go <| SeqJ.go <| bind_elim h fun x1 hx1 h => CallH.data _ false rfl (text_Lower_ok E a0 x1 hx1) ?_
  refine And.intro ⟨rfl, rfl, rfl, Nat.le_of_ble_eq_true rfl⟩ (Exists.intro [AV.bool true, AV.str (a1.Host), AV.int .i64 (a1.Port), AV.str (a1.Path), AV.bool (a1.Asks), AV.str (a1.Query)] (And.intro (fun _ => rfl) ?_))
  refine And.intro ⟨rfl, rfl, rfl, Nat.le_of_ble_eq_true rfl⟩ (Exists.intro [AV.bool true, AV.str x1, AV.int .i64 (a1.Port), AV.str (a1.Path), AV.bool (a1.Asks), AV.str (a1.Query)] (And.intro (fun _ => rfl) ?_))
  refine SeqN.go <| SeqJ.go <| bind_elim h fun x2 hx2 h => CallH.data _ false rfl (strings_LastIndexByte_ok E a0 (58 : Int) x2 hx2) <| SeqN.go <| SeqJ.go <| SeqJ.go <| SeqN.go ?_
  refine Br.mk (fun ht => ?_) (fun ht => ?_)
  · replace h := cond_tt h ht
    refine SeqJ.go <| And.intro ⟨Nat.le_of_ble_eq_true rfl, Nat.le_of_ble_eq_true rfl⟩ <| NormE.to (AV.agg [AV.bool true, AV.str x1, AV.int .i64 (a1.Port), AV.str (a1.Path), AV.bool (a1.Asks), AV.str (a1.Query)]) (fun _ => rfl) ?_
    refine And.intro ⟨rfl, rfl, rfl, Nat.le_of_ble_eq_true rfl⟩ (Exists.intro [AV.bool true, AV.str x1, AV.int .i64 (a1.Port), AV.str (a1.Path), AV.bool (a1.Asks), AV.str (a1.Query)] (And.intro (fun _ => rfl) ?_))
    refine SeqN.via (St.of [⟨4, AV.ptr 1 0, none⟩, ⟨5, AV.bool true, none⟩] [.dead, .cells 164 [AV.bool true, AV.str x1, AV.int .i64 (a1.Port), AV.str (a1.Path), AV.bool (a1.Asks), AV.str (a1.Query)] []] []) ?_ ?_
    · refine Gho.to _ _ _ [] ?_ ?_ ?_ rfl rfl ?_
      · exact ⟨trivial, ⟨⟨rfl, rfl, rfl⟩, trivial⟩⟩
      · exact rfl
      · exact rfl
      · exact ⟨rfl, rfl, trivial, rfl, rfl, trivial, trivial⟩
    replace h := Option.some.inj h
    refine RetE.plain ?_
    refine And.intro ⟨Nat.le_of_ble_eq_true rfl, Nat.le_of_ble_eq_true rfl⟩ (Exists.intro (AV.agg [AV.bool true, AV.str x1, AV.int .i64 (a1.Port), AV.str (a1.Path), AV.bool (a1.Asks), AV.str (a1.Query)]) (And.intro rfl ?_))
    exact And.intro rfl (And.intro (congrArg (fun r : (S_Uri × Bool) => AV.tup [S_Uri.av (r.1), AV.bool (r.2)]) h) rfl)
  · replace h := cond_ff h ht
    refine SeqN.go <| SeqJ.go <| bind_elim h fun x3 hx3 h => ?_
    have qx3 := (slc_some hx3).1
    have hx3e := (slc_some hx3).2
    refine And.intro (fun _ => qx3) <| NormE.to (AV.str x3) (fun _ => congrArg AV.str hx3e.symm) <| bind_elim h fun x4 hx4 h => CallH.data _ false rfl (number_ReadDec_ok E x3 x4 hx4) ?_
    refine SeqN.via (St.of [⟨0, AV.str a0, none⟩, ⟨3, AV.ptr 0 0, none⟩, ⟨4, AV.ptr 1 0, none⟩, ⟨6, AV.int .i64 x2, none⟩, ⟨7, AV.int .u64 (x4.1), none⟩, ⟨8, AV.int .i64 (x4.2), none⟩] [.cells 164 [AV.bool true, AV.str x1, AV.int .i64 (a1.Port), AV.str (a1.Path), AV.bool (a1.Asks), AV.str (a1.Query)] [], .cells 164 [AV.bool false, AV.str ([] : Bytes), AV.int .i64 (0 : Int), AV.str ([] : Bytes), AV.bool false, AV.str ([] : Bytes)] []] []) ?_ ?_
    · refine Gho.to _ _ _ [] ?_ ?_ ?_ rfl rfl ?_
      · exact ⟨⟨rfl, rfl, rfl⟩, ⟨⟨rfl, rfl, rfl⟩, trivial⟩⟩
      · exact rfl
      · exact rfl
      · exact ⟨rfl, rfl, trivial, rfl, rfl, trivial, rfl, rfl, trivial, rfl, rfl, trivial, rfl, rfl, trivial, rfl, rfl, trivial, trivial⟩
    refine SeqJ.go <| bind_elim h fun x5 hx5 h => ?_
    have qx5 := (slc_some hx5).1
    have hx5e := (slc_some hx5).2
    refine And.intro (fun _ => qx5) <| NormE.to (AV.str x5) (fun _ => congrArg AV.str hx5e.symm) ?_
    refine And.intro ⟨rfl, rfl, rfl, Nat.le_of_ble_eq_true rfl⟩ (Exists.intro [AV.bool true, AV.str x5, AV.int .i64 (a1.Port), AV.str (a1.Path), AV.bool (a1.Asks), AV.str (a1.Query)] (And.intro (fun _ => rfl) ?_))
    refine And.intro ⟨rfl, rfl, rfl, Nat.le_of_ble_eq_true rfl⟩ (Exists.intro [AV.bool true, AV.str x5, AV.int .i64 (IntKind.i64.wrap (x4.1)), AV.str (a1.Path), AV.bool (a1.Asks), AV.str (a1.Query)] (And.intro (fun _ => rfl) ?_))
    refine SeqN.go <| SeqJ.go <| And.intro ⟨Nat.le_of_ble_eq_true rfl, Nat.le_of_ble_eq_true rfl⟩ <| NormE.to (AV.agg [AV.bool true, AV.str x5, AV.int .i64 (IntKind.i64.wrap (x4.1)), AV.str (a1.Path), AV.bool (a1.Asks), AV.str (a1.Query)]) (fun _ => rfl) <| And.intro (fun hg => hg) <| NormE.same <| And.intro (fun hg => hg) <| And.intro (fun hg => hg) <| And.intro (fun hg => hg) <| And.intro (fun hg => hg) <| And.intro (fun hg => (and_r hg)) <| And.intro (fun hg => hg) <| And.intro (fun hg => (and_r hg)) ?_
    refine And.intro ⟨rfl, rfl, rfl, Nat.le_of_ble_eq_true rfl⟩ (Exists.intro [AV.bool true, AV.str x5, AV.int .i64 (IntKind.i64.wrap (x4.1)), AV.str (a1.Path), AV.bool (a1.Asks), AV.str (a1.Query)] (And.intro (fun _ => rfl) ?_))
    refine SeqN.via (St.of [⟨4, AV.ptr 1 0, none⟩, ⟨5, AV.bool (bif (bif ((x4.2) == (0 : Int)) then (decide ((IntKind.i64.wrap ((IntKind.i64.wrap ((a0.length : Int) - x2)) - (1 : Int))) ≤ (5 : Int))) else false) then (decide ((x4.1) > (0 : Int))) else false), none⟩] [.dead, .cells 164 [AV.bool true, AV.str x5, AV.int .i64 (IntKind.i64.wrap (x4.1)), AV.str (a1.Path), AV.bool (a1.Asks), AV.str (a1.Query)] []] []) ?_ ?_
    · refine Gho.to _ _ _ [] ?_ ?_ ?_ rfl rfl ?_
      · exact ⟨trivial, ⟨⟨rfl, rfl, rfl⟩, trivial⟩⟩
      · exact rfl
      · exact rfl
      · exact ⟨rfl, rfl, trivial, rfl, rfl, trivial, trivial⟩
    replace h := Option.some.inj h
    refine RetE.plain ?_
    refine And.intro ⟨Nat.le_of_ble_eq_true rfl, Nat.le_of_ble_eq_true rfl⟩ (Exists.intro (AV.agg [AV.bool true, AV.str x5, AV.int .i64 (IntKind.i64.wrap (x4.1)), AV.str (a1.Path), AV.bool (a1.Asks), AV.str (a1.Query)]) (And.intro rfl ?_))
    exact And.intro rfl (And.intro (congrArg (fun r : (S_Uri × Bool) => AV.tup [S_Uri.av (r.1), AV.bool (r.2)]) h) rfl)

theorem stringslite_Index_ok (E : Pm.Env) [LaidE E] (a0 : Bytes) (a1 : Bytes) (r : Int) (h : stringslite_Index a0 a1 = some r) : FnR E Tryz.prog 113 [AV.str a0, AV.str a1] (AV.int .i64 r) false := by
  refine FnR.of_ev (T := T) (rows := []) tOk mixed Tryz.func113 rfl (by kernel_rfl) (by kernel_rfl) rfl fun hwf => ?_
  unfold stringslite_Index at h
  refine SeqJ.go <| SeqN.go <| SeqJ.go <| NormE.same <| SeqN.go <| SeqJ.go <| SeqJ.go <| And.intro (fun hg => hg) <| And.intro (fun hg => hg) <| And.intro (fun hg => (and_r hg)) <| SeqN.go ?_
  refine Br.mk (fun ht => ?_) (fun ht => ?_)
  · replace h := cond_tt h ht
    refine SeqJ.go <| SeqN.go ?_
    replace h := Option.some.inj h
    refine RetE.plain ?_
    exact And.intro rfl (And.intro (congrArg (fun r : Int => AV.int .i64 r) h) rfl)
  · replace h := cond_ff h ht
    refine SeqJ.go <| SeqN.go ?_
    refine Br.mk (fun ht => ?_) (fun ht => ?_)
    · replace h := cond_tt h ht
      refine SeqJ.go <| bind_elim h fun x1 hx1 h => ?_
      refine Exists.intro x1 (And.intro (fun hg => idx_some hx1) ?_)
      refine bind_elim h fun x2 hx2 h => CallH.data _ false rfl (stringslite_IndexByte_ok E a0 (x1.toNat : Int) x2 hx2) ?_
      refine SeqN.via (St.of [⟨4, AV.int .i64 x2, none⟩] [] []) ?_ ?_
      · refine Gho.to _ _ _ [] ?_ ?_ ?_ rfl rfl ?_
        · exact trivial
        · exact rfl
        · exact rfl
        · exact ⟨rfl, rfl, trivial, trivial⟩
      replace h := Option.some.inj h
      refine RetE.plain ?_
      exact And.intro rfl (And.intro (congrArg (fun r : Int => AV.int .i64 r) h) rfl)
    · replace h := cond_ff h ht
      refine SeqJ.go <| NormE.same ?_
      refine SeqN.via (St.of [⟨0, AV.str a0, none⟩, ⟨1, AV.str a1, none⟩, ⟨5, AV.int .i64 (a1.length : Int), none⟩, ⟨31, AV.bool (decide ((a1.length : Int) ≥ (a0.length : Int))), none⟩] [] []) ?_ ?_
      · refine Gho.to _ _ _ [] ?_ ?_ ?_ rfl rfl ?_
        · exact trivial
        · exact rfl
        · exact rfl
        · exact ⟨rfl, rfl, trivial, rfl, rfl, trivial, rfl, rfl, trivial, rfl, rfl, trivial, trivial⟩
      refine Br.mk (fun ht => ?_) (fun ht => ?_)
      · replace h := cond_tt h ht
        refine SeqJ.go <| SeqN.go ?_
        replace h := Option.some.inj h
        refine RetE.plain ?_
        exact And.intro rfl (And.intro (congrArg (fun r : Int => AV.int .i64 r) h) rfl)
      · replace h := cond_ff h ht
        refine SeqJ.go ?_
        cases h

theorem stringslite_Cut_ok (E : Pm.Env) [LaidE E] (a0 : Bytes) (a1 : Bytes) (r : (Bytes × Bytes × Bool)) (h : stringslite_Cut a0 a1 = some r) : FnR E Tryz.prog 56 [AV.str a0, AV.str a1] (AV.tup [AV.str (r.1), AV.str (r.2.1), AV.bool (r.2.2)]) false := by
  refine FnR.of_ev (T := T) (rows := []) tOk mixed Tryz.func56 rfl (by kernel_rfl) (by kernel_rfl) rfl fun hwf => ?_
  unfold stringslite_Cut at h
  refine SeqJ.go <| SeqN.go <| SeqJ.go <| SeqJ.go <| bind_elim h fun x1 hx1 h => CallH.data _ false rfl (stringslite_Index_ok E a0 a1 x1 hx1) <| SeqN.go <| SeqJ.go <| SeqN.go ?_
  refine Br.mk (fun ht => ?_) (fun ht => ?_)
  · replace h := cond_tt h ht
    refine SeqJ.go <| bind_elim h fun x2 hx2 h => ?_
    have qx2 := (slc_some hx2).1
    have hx2e := (slc_some hx2).2
    refine And.intro (fun _ => qx2) <| NormE.to (AV.str x2) (fun _ => congrArg AV.str hx2e.symm) <| NormE.same <| bind_elim h fun x3 hx3 h => ?_
    have qx3 := (slc_some hx3).1
    have hx3e := (slc_some hx3).2
    refine And.intro (fun _ => qx3) <| NormE.to (AV.str x3) (fun _ => congrArg AV.str hx3e.symm) <| And.intro (by kernel_rfl) ?_
    refine SeqN.via (St.of [⟨4, AV.str x2, none⟩, ⟨5, AV.str x3, none⟩, ⟨6, AV.bool true, none⟩] [] []) ?_ ?_
    · refine Gho.to _ _ _ [] ?_ ?_ ?_ rfl rfl ?_
      · exact trivial
      · exact rfl
      · exact rfl
      · exact ⟨rfl, rfl, trivial, rfl, rfl, trivial, rfl, rfl, trivial, trivial⟩
    replace h := Option.some.inj h
    refine RetE.plain ?_
    exact And.intro rfl (And.intro (congrArg (fun r : (Bytes × Bytes × Bool) => AV.tup [AV.str (r.1), AV.str (r.2.1), AV.bool (r.2.2)]) h) rfl)
  · replace h := cond_ff h ht
    refine SeqN.go <| SeqJ.go <| SeqN.go ?_
    replace h := Option.some.inj h
    refine RetE.plain ?_
    exact And.intro rfl (And.intro (congrArg (fun r : (Bytes × Bytes × Bool) => AV.tup [AV.str (r.1), AV.str (r.2.1), AV.bool (r.2.2)]) h) rfl)

theorem strings_Cut_ok (E : Pm.Env) [LaidE E] (a0 : Bytes) (a1 : Bytes) (r : (Bytes × Bytes × Bool)) (h : strings_Cut a0 a1 = some r) : FnR E Tryz.prog 19 [AV.str a0, AV.str a1] (AV.tup [AV.str (r.1), AV.str (r.2.1), AV.bool (r.2.2)]) false := by
  refine FnR.of_ev (T := T) (rows := []) tOk mixed Tryz.func19 rfl (by kernel_rfl) (by kernel_rfl) rfl fun hwf => ?_
  unfold strings_Cut at h
  refine SeqJ.go <| SeqN.go <| SeqJ.go <| bind_elim h fun x1 hx1 h => CallH.data _ false rfl (stringslite_Cut_ok E a0 a1 x1 hx1) <| SeqN.go ?_
  replace h := Option.some.inj h
  refine RetE.plain ?_
  exact And.intro rfl (And.intro (congrArg (fun r : (Bytes × Bytes × Bool) => AV.tup [AV.str (r.1), AV.str (r.2.1), AV.bool (r.2.2)]) h) rfl)

theorem uri_path_ok (E : Pm.Env) [LaidE E] (a0 : Bytes) (a1 : S_Uri) (r : S_Uri) (h : uri_path a0 a1 = some r) : FnR E Tryz.prog 194 [AV.str a0, S_Uri.av a1] (S_Uri.av r) false := by
  refine FnR.of_ev (T := T) (rows := []) tOk mixed Tryz.func194 rfl (by kernel_rfl) (by kernel_rfl) rfl fun hwf => ?_
  unfold uri_path at h
  refine SeqJ.go <| And.intro rfl <| And.intro rfl <| SeqN.go <| SeqJ.go <| bind_elim h fun x1 hx1 h => CallH.data _ false rfl (strings_Cut_ok E a0 ([63] : Bytes) x1 hx1) ?_
  refine And.intro ⟨rfl, rfl, rfl, Nat.le_of_ble_eq_true rfl⟩ (Exists.intro [AV.bool (a1.Abs), AV.str (a1.Host), AV.int .i64 (a1.Port), AV.str (x1.1), AV.bool (a1.Asks), AV.str (a1.Query)] (And.intro (fun _ => rfl) ?_))
  refine And.intro ⟨rfl, rfl, rfl, Nat.le_of_ble_eq_true rfl⟩ (Exists.intro [AV.bool (a1.Abs), AV.str (a1.Host), AV.int .i64 (a1.Port), AV.str (x1.1), AV.bool (a1.Asks), AV.str (x1.2.1)] (And.intro (fun _ => rfl) ?_))
  refine And.intro ⟨rfl, rfl, rfl, Nat.le_of_ble_eq_true rfl⟩ (Exists.intro [AV.bool (a1.Abs), AV.str (a1.Host), AV.int .i64 (a1.Port), AV.str (x1.1), AV.bool (x1.2.2), AV.str (x1.2.1)] (And.intro (fun _ => rfl) ?_))
  refine SeqN.go <| SeqJ.go <| And.intro ⟨Nat.le_of_ble_eq_true rfl, Nat.le_of_ble_eq_true rfl⟩ <| NormE.to (AV.agg [AV.bool (a1.Abs), AV.str (a1.Host), AV.int .i64 (a1.Port), AV.str (x1.1), AV.bool (x1.2.2), AV.str (x1.2.1)]) (fun _ => rfl) ?_
  refine And.intro ⟨rfl, rfl, rfl, Nat.le_of_ble_eq_true rfl⟩ (Exists.intro [AV.bool (a1.Abs), AV.str (a1.Host), AV.int .i64 (a1.Port), AV.str (x1.1), AV.bool (x1.2.2), AV.str (x1.2.1)] (And.intro (fun _ => rfl) ?_))
  refine SeqN.via (St.of [⟨4, AV.ptr 1 0, none⟩] [.dead, .cells 164 [AV.bool (a1.Abs), AV.str (a1.Host), AV.int .i64 (a1.Port), AV.str (x1.1), AV.bool (x1.2.2), AV.str (x1.2.1)] []] []) ?_ ?_
  · refine Gho.to _ _ _ [] ?_ ?_ ?_ rfl rfl ?_
    · exact ⟨trivial, ⟨⟨rfl, rfl, rfl⟩, trivial⟩⟩
    · exact rfl
    · exact rfl
    · exact ⟨rfl, rfl, trivial, trivial⟩
  replace h := Option.some.inj h
  refine RetE.plain ?_
  refine And.intro ⟨Nat.le_of_ble_eq_true rfl, Nat.le_of_ble_eq_true rfl⟩ (Exists.intro (AV.agg [AV.bool (a1.Abs), AV.str (a1.Host), AV.int .i64 (a1.Port), AV.str (x1.1), AV.bool (x1.2.2), AV.str (x1.2.1)]) (And.intro rfl ?_))
  exact And.intro rfl (And.intro (congrArg (fun r : S_Uri => S_Uri.av r) h) rfl)

theorem slices_IndexFunc__byte_byte_ok (E : Pm.Env) [LaidE E] (a0 : (List UInt8)) (a1 : FuncId) (a1c : List AV) (a1i : Int → Option Bool) (a1h : ∀ (x0 : Int) (r : Bool), a1i x0 = some r → FnR E Tryz.prog a1 ([AV.int .u8 x0] ++ a1c) (AV.bool r) false) (a1p : a1c.all AV.puB = true) (r : Int) (h : slices_IndexFunc__byte_byte a0 a1i = some r) : FnR E Tryz.prog 235 [AV.list 1 (a0.map byteAV), AV.fn a1 [] a1c] (AV.int .i64 r) false := by
  refine FnR.of_ev (T := T) (rows := []) tOk mixed Tryz.func235 rfl (by kernel_rfl) (by kernel_rfl) rfl fun hwf => ?_
  unfold slices_IndexFunc__byte_byte at h
  refine SeqJ.go <| SeqN.go <| SeqJ.go <| SeqJ.go <| NormE.to (AV.int .i64 (a0.length : Int)) (fun _ => len_list byteAV a0) <| SeqN.go ?_
  refine LoopE.img (fun x : Int => St.of [⟨0, AV.list 1 (a0.map byteAV), none⟩, ⟨1, AV.fn a1 [] a1c, none⟩, ⟨7, AV.int .i64 (a0.length : Int), none⟩, ⟨8, AV.int .i64 x, none⟩] [] []) (slices_IndexFunc__byte_byte_b1 a0 a1i) (0 : Int) h ?_ ?_
  · refine Gho.to _ _ _ [] ?_ ?_ ?_ rfl rfl ?_
    · exact trivial
    · exact rfl
    · exact rfl
    · exact ⟨rfl, rfl, trivial, rfl, (noB_fn a1p _), trivial, rfl, rfl, trivial, rfl, rfl, trivial, trivial⟩
  intro n1 x y1 h hl1 hr1
  revert h; revert x; intro s1 h
  unfold slices_IndexFunc__byte_byte_b1 at h
  refine SeqJ.go <| SeqN.go <| SeqJ.go ?_
  refine Br.mk (fun ht => ?_) (fun ht => ?_)
  · replace h := cond_tt h ht
    refine SeqN.go <| SeqJ.go <| SeqJ.go <| SeqN.go <| SeqJ.go <| bind_elim h fun x2 hx2 h => ?_
    refine And.intro rfl (Exists.intro (byteAV x2) (And.intro (fun hg => idx_map _ hx2) ?_))
    refine bind_elim h fun x3 hx3 h => CallH.data _ false (puD_app rfl (puD_of a1p)) (a1h (x2.toNat : Int) x3 hx3) <| SeqN.go ?_
    refine Br.mk (fun ht => ?_) (fun ht => ?_)
    · replace h := cond_tt h ht
      refine SeqJ.go <| SeqN.go ?_
      replace h := Option.some.inj h
      replace h := hr1 _ h.symm
      refine RetE.plain ?_
      exact And.intro rfl (And.intro (congrArg (fun r : Int => AV.int .i64 r) h) rfl)
    · replace h := cond_ff h ht
      refine SeqN.go ?_
      replace h := Option.some.inj h
      refine Exists.intro ⟨(n1, (IntKind.i64.wrap (s1 + (1 : Int)))), hl1 _ h.symm⟩ (And.intro (Nat.lt_succ_self _) ?_)
      refine Gho.to _ _ _ [] ?_ ?_ ?_ rfl rfl ?_
      · exact trivial
      · exact rfl
      · exact rfl
      · exact ⟨rfl, rfl, trivial, rfl, (noB_fn a1p _), trivial, rfl, rfl, trivial, rfl, rfl, trivial, trivial⟩
  · replace h := cond_ff h ht
    refine SeqN.go <| SeqJ.go <| SeqN.go ?_
    replace h := Option.some.inj h
    replace h := hr1 _ h.symm
    refine RetE.plain ?_
    exact And.intro rfl (And.intro (congrArg (fun r : Int => AV.int .i64 r) h) rfl)

theorem slices_ContainsFunc__byte_byte_ok (E : Pm.Env) [LaidE E] (a0 : (List UInt8)) (a1 : FuncId) (a1c : List AV) (a1i : Int → Option Bool) (a1h : ∀ (x0 : Int) (r : Bool), a1i x0 = some r → FnR E Tryz.prog a1 ([AV.int .u8 x0] ++ a1c) (AV.bool r) false) (a1p : a1c.all AV.puB = true) (r : Bool) (h : slices_ContainsFunc__byte_byte a0 a1i = some r) : FnR E Tryz.prog 203 [AV.list 1 (a0.map byteAV), AV.fn a1 [] a1c] (AV.bool r) false := by
  refine FnR.of_ev (T := T) (rows := []) tOk mixed Tryz.func203 rfl (by kernel_rfl) (by kernel_rfl) rfl fun hwf => ?_
  unfold slices_ContainsFunc__byte_byte at h
  refine SeqJ.go <| SeqN.go <| SeqJ.go <| bind_elim h fun x1 hx1 h => CallH.data _ false (and_tt' rfl (and_tt' (puD_fn a1p) rfl)) (slices_IndexFunc__byte_byte_ok E a0 a1 a1c (a1i) a1h a1p x1 hx1) <| SeqN.go ?_
  replace h := Option.some.inj h
  refine RetE.plain ?_
  exact And.intro rfl (And.intro (congrArg (fun r : Bool => AV.bool r) h) rfl)

theorem uri_bytes_1_ok (E : Pm.Env) [LaidE E] (a0 : Int) (r : Bool) (h : uri_bytes_1 a0 = some r) : FnR E Tryz.prog 259 [AV.int .u8 a0] (AV.bool r) false := by
  refine FnR.of_ev (T := T) (rows := []) tOk mixed Tryz.func259 rfl (by kernel_rfl) (by kernel_rfl) rfl fun hwf => ?_
  unfold uri_bytes_1 at h
  refine SeqJ.go <| SeqN.go <| SeqJ.go <| And.intro (fun hg => hg) <| And.intro (fun hg => (and_r hg)) <| bind_elim h fun x1 hx1 h => And.intro (fun hg => hg) <| And.intro rfl ?_
  refine CallF.mk _ false (fun hg => strings_IndexByte_ok E ([34, 35, 60, 62, 92, 94, 123, 124, 125, 96] : Bytes) a0 x1 (gcall_some hx1 hg)) (And.intro rfl ?_)
  refine And.intro (fun hg => hg) <| And.intro (fun hg => (and_r hg)) <| SeqN.go ?_
  replace h := Option.some.inj h
  refine RetE.plain ?_
  exact And.intro rfl (And.intro (congrArg (fun r : Bool => AV.bool r) h) rfl)

theorem uri_bytes_ok (E : Pm.Env) [LaidE E] (a0 : Bytes) (r : Bool) (h : uri_bytes a0 = some r) : FnR E Tryz.prog 231 [AV.str a0] (AV.bool r) false := by
  refine FnR.of_ev (T := T) (rows := []) tOk mixed Tryz.func231 rfl (by kernel_rfl) (by kernel_rfl) rfl fun hwf => ?_
  unfold uri_bytes at h
  refine SeqJ.go <| SeqN.go <| SeqJ.go <| And.intro ⟨rfl, rfl⟩ <| bind_elim h fun x1 hx1 h => CallH.data _ false rfl (slices_ContainsFunc__byte_byte_ok E a0 259 [] (fun x0 => uri_bytes_1 x0) (fun x0 r h => uri_bytes_1_ok E x0 r h) rfl x1 hx1) <| SeqN.go ?_
  replace h := Option.some.inj h
  refine RetE.plain ?_
  exact And.intro rfl (And.intro (congrArg (fun r : Bool => AV.bool r) h) rfl)

theorem strings_Index_ok (E : Pm.Env) [LaidE E] (a0 : Bytes) (a1 : Bytes) (r : Int) (h : strings_Index a0 a1 = some r) : FnR E Tryz.prog 59 [AV.str a0, AV.str a1] (AV.int .i64 r) false := by
  refine FnR.of_ev (T := T) (rows := []) tOk mixed Tryz.func59 rfl (by kernel_rfl) (by kernel_rfl) rfl fun hwf => ?_
  unfold strings_Index at h
  refine SeqJ.go <| SeqN.go <| SeqJ.go <| bind_elim h fun x1 hx1 h => CallH.data _ false rfl (stringslite_Index_ok E a0 a1 x1 hx1) <| SeqN.go ?_
  replace h := Option.some.inj h
  refine RetE.plain ?_
  exact And.intro rfl (And.intro (congrArg (fun r : Int => AV.int .i64 r) h) rfl)

theorem strings_Contains_ok (E : Pm.Env) [LaidE E] (a0 : Bytes) (a1 : Bytes) (r : Bool) (h : strings_Contains a0 a1 = some r) : FnR E Tryz.prog 132 [AV.str a0, AV.str a1] (AV.bool r) false := by
  refine FnR.of_ev (T := T) (rows := []) tOk mixed Tryz.func132 rfl (by kernel_rfl) (by kernel_rfl) rfl fun hwf => ?_
  unfold strings_Contains at h
  refine SeqJ.go <| SeqN.go <| SeqJ.go <| bind_elim h fun x1 hx1 h => CallH.data _ false rfl (strings_Index_ok E a0 a1 x1 hx1) <| SeqN.go ?_
  replace h := Option.some.inj h
  refine RetE.plain ?_
  exact And.intro rfl (And.intro (congrArg (fun r : Bool => AV.bool r) h) rfl)

theorem number_Dec_ok (E : Pm.Env) [LaidE E] (a0 : Int) (r : Bytes) (h : number_Dec a0 = some r) : FnR E Tryz.prog 96 [AV.int .u64 a0] (AV.str r) false := by
  refine FnR.of_ev (T := T) (rows := []) tOk mixed Tryz.func96 rfl (by kernel_rfl) (by kernel_rfl) rfl fun hwf => ?_
  unfold number_Dec at h
  refine SeqJ.go <| SeqN.go <| SeqJ.go <| bind_elim h fun x1 hx1 h => CallH.data _ false rfl (strconv_FormatUint_ok E a0 (10 : Int) x1 hx1) <| SeqN.go ?_
  replace h := Option.some.inj h
  refine RetE.plain ?_
  exact And.intro rfl (And.intro (congrArg (fun r : Bytes => AV.str r) h) rfl)

theorem uri_write_ok (E : Pm.Env) [LaidE E] (a0 : S_Uri) (r : Bytes) (h : uri_write a0 = some r) : FnR E Tryz.prog 232 [S_Uri.av a0] (AV.str r) false := by
  refine FnR.of_ev (T := T) (rows := []) tOk mixed Tryz.func232 rfl (by kernel_rfl) (by kernel_rfl) rfl fun hwf => ?_
  unfold uri_write at h
  refine SeqJ.go <| And.intro rfl <| SeqN.go <| SeqJ.go <| SeqN.go <| SeqJ.go <| SeqJ.go <| SeqN.go ?_
  refine Br.mk (fun ht => ?_) (fun ht => ?_)
  · replace h := cond_tt h ht
    refine SeqJ.go <| bind_elim h fun x1 hx1 h => ?_
    have hx1c := (cat_some hx1).1
    have hx1e := (cat_some hx1).2
    refine And.intro (fun _ => hx1c) <| NormE.to (AV.str x1) (fun _ => congrArg AV.str hx1e.symm) <| SeqN.go <| SeqJ.go <| SeqN.go ?_
    refine Br.mk (fun ht => ?_) (fun ht => ?_)
    · replace h := cond_tt h ht
      refine bind_elim h fun x2 hx2 h => CallH.data _ false rfl (number_Dec_ok E (IntKind.u64.wrap (a0.Port)) x2 hx2) <| bind_elim h fun x3 hx3 h => ?_
      have hx3c := (cat_some hx3).1
      have hx3e := (cat_some hx3).2
      refine And.intro (fun _ => hx3c) <| NormE.to (AV.str x3) (fun _ => congrArg AV.str hx3e.symm) <| bind_elim h fun x4 hx4 h => ?_
      have hx4c := (cat_some hx4).1
      have hx4e := (cat_some hx4).2
      refine And.intro (fun _ => hx4c) <| NormE.to (AV.str x4) (fun _ => congrArg AV.str hx4e.symm) ?_
      refine SeqN.via (St.of [⟨1, AV.ptr 0 0, none⟩, ⟨3, AV.str x4, none⟩] [.cells 164 (S_Uri.cells a0) []] []) ?_ ?_
      · refine Gho.to _ _ _ [] ?_ ?_ ?_ rfl rfl ?_
        · exact ⟨⟨rfl, rfl, rfl⟩, trivial⟩
        · exact rfl
        · exact rfl
        · exact ⟨rfl, rfl, trivial, rfl, rfl, trivial, trivial⟩
      refine SeqJ.go <| bind_elim h fun x5 hx5 h => ?_
      have hx5c := (cat_some hx5).1
      have hx5e := (cat_some hx5).2
      refine And.intro (fun _ => hx5c) <| NormE.to (AV.str x5) (fun _ => congrArg AV.str hx5e.symm) <| SeqN.go <| SeqJ.go <| SeqJ.go <| SeqN.go ?_
      refine Br.mk (fun ht => ?_) (fun ht => ?_)
      · replace h := cond_tt h ht
        refine bind_elim h fun x6 hx6 h => ?_
        have hx6c := (cat_some hx6).1
        have hx6e := (cat_some hx6).2
        refine And.intro (fun _ => hx6c) <| NormE.to (AV.str x6) (fun _ => congrArg AV.str hx6e.symm) <| bind_elim h fun x7 hx7 h => ?_
        have hx7c := (cat_some hx7).1
        have hx7e := (cat_some hx7).2
        refine And.intro (fun _ => hx7c) <| NormE.to (AV.str x7) (fun _ => congrArg AV.str hx7e.symm) <| SeqN.go <| SeqJ.go <| SeqN.go ?_
        replace h := Option.some.inj h
        refine RetE.plain ?_
        exact And.intro rfl (And.intro (congrArg (fun r : Bytes => AV.str r) h) rfl)
      · replace h := cond_ff h ht
        refine SeqN.go <| SeqJ.go <| SeqN.go ?_
        replace h := Option.some.inj h
        refine RetE.plain ?_
        exact And.intro rfl (And.intro (congrArg (fun r : Bytes => AV.str r) h) rfl)
    · replace h := cond_ff h ht
      refine SeqN.go <| SeqJ.go <| bind_elim h fun x8 hx8 h => ?_
      have hx8c := (cat_some hx8).1
      have hx8e := (cat_some hx8).2
      refine And.intro (fun _ => hx8c) <| NormE.to (AV.str x8) (fun _ => congrArg AV.str hx8e.symm) ?_
      refine SeqN.via (St.of [⟨1, AV.ptr 0 0, none⟩, ⟨3, AV.str x8, none⟩] [.cells 164 (S_Uri.cells a0) []] []) ?_ ?_
      · refine Gho.to _ _ _ [] ?_ ?_ ?_ rfl rfl ?_
        · exact ⟨⟨rfl, rfl, rfl⟩, trivial⟩
        · exact rfl
        · exact rfl
        · exact ⟨rfl, rfl, trivial, rfl, rfl, trivial, trivial⟩
      refine SeqJ.go <| SeqJ.go <| SeqN.go ?_
      refine Br.mk (fun ht => ?_) (fun ht => ?_)
      · replace h := cond_tt h ht
        refine bind_elim h fun x9 hx9 h => ?_
        have hx9c := (cat_some hx9).1
        have hx9e := (cat_some hx9).2
        refine And.intro (fun _ => hx9c) <| NormE.to (AV.str x9) (fun _ => congrArg AV.str hx9e.symm) <| bind_elim h fun x10 hx10 h => ?_
        have hx10c := (cat_some hx10).1
        have hx10e := (cat_some hx10).2
        refine And.intro (fun _ => hx10c) <| NormE.to (AV.str x10) (fun _ => congrArg AV.str hx10e.symm) <| SeqN.go <| SeqJ.go <| SeqN.go ?_
        replace h := Option.some.inj h
        refine RetE.plain ?_
        exact And.intro rfl (And.intro (congrArg (fun r : Bytes => AV.str r) h) rfl)
      · replace h := cond_ff h ht
        refine SeqN.go <| SeqJ.go <| SeqN.go ?_
        replace h := Option.some.inj h
        refine RetE.plain ?_
        exact And.intro rfl (And.intro (congrArg (fun r : Bytes => AV.str r) h) rfl)
  · replace h := cond_ff h ht
    refine SeqN.go <| SeqJ.go <| bind_elim h fun x11 hx11 h => ?_
    have hx11c := (cat_some hx11).1
    have hx11e := (cat_some hx11).2
    refine And.intro (fun _ => hx11c) <| NormE.to (AV.str x11) (fun _ => congrArg AV.str hx11e.symm) <| SeqN.go <| SeqJ.go <| SeqJ.go <| SeqN.go ?_
    refine Br.mk (fun ht => ?_) (fun ht => ?_)
    · replace h := cond_tt h ht
      refine bind_elim h fun x12 hx12 h => ?_
      have hx12c := (cat_some hx12).1
      have hx12e := (cat_some hx12).2
      refine And.intro (fun _ => hx12c) <| NormE.to (AV.str x12) (fun _ => congrArg AV.str hx12e.symm) <| bind_elim h fun x13 hx13 h => ?_
      have hx13c := (cat_some hx13).1
      have hx13e := (cat_some hx13).2
      refine And.intro (fun _ => hx13c) <| NormE.to (AV.str x13) (fun _ => congrArg AV.str hx13e.symm) ?_
      refine SeqN.via (St.of [⟨3, AV.str x13, none⟩] [] []) ?_ ?_
      · refine Gho.to _ _ _ [] ?_ ?_ ?_ rfl rfl ?_
        · exact trivial
        · exact rfl
        · exact rfl
        · exact ⟨rfl, rfl, trivial, trivial⟩
      refine SeqJ.go <| SeqN.go ?_
      replace h := Option.some.inj h
      refine RetE.plain ?_
      exact And.intro rfl (And.intro (congrArg (fun r : Bytes => AV.str r) h) rfl)
    · replace h := cond_ff h ht
      refine SeqN.go <| SeqJ.go <| SeqN.go ?_
      replace h := Option.some.inj h
      refine RetE.plain ?_
      exact And.intro rfl (And.intro (congrArg (fun r : Bytes => AV.str r) h) rfl)

theorem uri_host_1_ok (E : Pm.Env) [LaidE E] (a0 : Int) (r : Bool) (h : uri_host_1 a0 = some r) : FnR E Tryz.prog 260 [AV.int .u8 a0] (AV.bool r) false := by
  refine FnR.of_ev (T := T) (rows := []) tOk mixed Tryz.func260 rfl (by kernel_rfl) (by kernel_rfl) rfl fun hwf => ?_
  unfold uri_host_1 at h
  refine SeqJ.go <| SeqN.go <| SeqJ.go <| And.intro (fun hg => hg) <| And.intro (fun hg => (and_r hg)) <| And.intro (fun hg => hg) <| And.intro (fun hg => hg) <| And.intro (fun hg => hg) <| And.intro (fun hg => hg) <| And.intro (fun hg => hg) <| And.intro (fun hg => (and_r hg)) <| And.intro (fun hg => hg) <| And.intro (fun hg => (and_r hg)) <| And.intro (fun hg => hg) <| And.intro (fun hg => (and_r hg)) ?_
  refine SeqN.via (St.of [⟨2, AV.bool (!(bif (bif (bif (bif (decide (a0 ≥ (97 : Int))) then (decide (a0 ≤ (122 : Int))) else false) then true else (bif (decide (a0 ≥ (48 : Int))) then (decide (a0 ≤ (57 : Int))) else false)) then true else (a0 == (45 : Int))) then true else (a0 == (46 : Int)))), none⟩] [] []) ?_ ?_
  · refine Gho.to _ _ _ [] ?_ ?_ ?_ rfl rfl ?_
    · exact trivial
    · exact rfl
    · exact rfl
    · exact ⟨rfl, rfl, trivial, trivial⟩
  replace h := Option.some.inj h
  refine RetE.plain ?_
  exact And.intro rfl (And.intro (congrArg (fun r : Bool => AV.bool r) h) rfl)

theorem uri_host_ok (E : Pm.Env) [LaidE E] (a0 : Bytes) (r : Bool) (h : uri_host a0 = some r) : FnR E Tryz.prog 233 [AV.str a0] (AV.bool r) false := by
  refine FnR.of_ev (T := T) (rows := []) tOk mixed Tryz.func233 rfl (by kernel_rfl) (by kernel_rfl) rfl fun hwf => ?_
  unfold uri_host at h
  refine SeqJ.go <| SeqN.go <| SeqJ.go <| NormE.same <| And.intro (fun hg => hg) <| NormE.same <| And.intro (fun hg => hg) <| And.intro (fun hg => (and_r hg)) <| And.intro (fun hg => hg) <| And.intro ⟨rfl, rfl⟩ <| bind_elim h fun x1 hx1 h => And.intro (fun hg => hg) <| And.intro rfl ?_
  refine CallF.mk _ false (fun hg => slices_ContainsFunc__byte_byte_ok E a0 260 [] (fun x0 => uri_host_1 x0) (fun x0 r h => uri_host_1_ok E x0 r h) rfl x1 (gcall_some hx1 hg)) (And.intro rfl ?_)
  refine And.intro (fun hg => hg) <| And.intro (fun hg => (and_r hg)) ?_
  refine SeqN.via (St.of [⟨2, AV.bool (bif (bif (decide ((a0.length : Int) ≥ (1 : Int))) then (decide ((a0.length : Int) ≤ (100 : Int))) else false) then (!x1) else false), none⟩] [] []) ?_ ?_
  · refine Gho.to _ _ _ [] ?_ ?_ ?_ rfl rfl ?_
    · exact trivial
    · exact rfl
    · exact rfl
    · exact ⟨rfl, rfl, trivial, trivial⟩
  replace h := Option.some.inj h
  refine RetE.plain ?_
  exact And.intro rfl (And.intro (congrArg (fun r : Bool => AV.bool r) h) rfl)

theorem stringslite_HasPrefix_ok (E : Pm.Env) [LaidE E] (a0 : Bytes) (a1 : Bytes) (r : Bool) (h : stringslite_HasPrefix a0 a1 = some r) : FnR E Tryz.prog 152 [AV.str a0, AV.str a1] (AV.bool r) false := by
  refine FnR.of_ev (T := T) (rows := []) tOk mixed Tryz.func152 rfl (by kernel_rfl) (by kernel_rfl) rfl fun hwf => ?_
  unfold stringslite_HasPrefix at h
  refine SeqJ.go <| SeqN.go <| SeqJ.go <| NormE.same <| NormE.same <| And.intro (fun hg => hg) <| NormE.same <| bind_elim h fun x1 hx1 h => ?_
  have qx1 := (gslc_some hx1).1
  have hx1e := (gslc_some hx1).2
  refine And.intro (fun hg => hg) <| And.intro (fun hg => hg) <| And.intro qx1 <| NormE.to (AV.str x1) (fun _ => congrArg AV.str hx1e.symm) <| And.intro (fun hg => hg) <| And.intro (fun hg => hg) <| And.intro (fun hg => (and_r hg)) <| SeqN.go ?_
  replace h := Option.some.inj h
  refine RetE.plain ?_
  exact And.intro rfl (And.intro (congrArg (fun r : Bool => AV.bool r) h) rfl)

theorem strings_HasPrefix_ok (E : Pm.Env) [LaidE E] (a0 : Bytes) (a1 : Bytes) (r : Bool) (h : strings_HasPrefix a0 a1 = some r) : FnR E Tryz.prog 120 [AV.str a0, AV.str a1] (AV.bool r) false := by
  refine FnR.of_ev (T := T) (rows := []) tOk mixed Tryz.func120 rfl (by kernel_rfl) (by kernel_rfl) rfl fun hwf => ?_
  unfold strings_HasPrefix at h
  refine SeqJ.go <| SeqN.go <| SeqJ.go <| bind_elim h fun x1 hx1 h => CallH.data _ false rfl (stringslite_HasPrefix_ok E a0 a1 x1 hx1) <| SeqN.go ?_
  replace h := Option.some.inj h
  refine RetE.plain ?_
  exact And.intro rfl (And.intro (congrArg (fun r : Bool => AV.bool r) h) rfl)

theorem uri_Right_ok (E : Pm.Env) [LaidE E] (a0 : S_Uri) (r : Bool) (h : uri_Right a0 = some r) : FnR E Tryz.prog 195 [S_Uri.av a0] (AV.bool r) false := by
  refine FnR.of_ev (T := T) (rows := []) tOk mixed Tryz.func195 rfl (by kernel_rfl) (by kernel_rfl) rfl fun hwf => ?_
  unfold uri_Right at h
  refine SeqJ.go <| And.intro rfl <| SeqN.go <| SeqJ.go <| SeqJ.go <| bind_elim h fun x1 hx1 h => CallH.data _ false rfl (uri_bytes_ok E (a0.Path) x1 hx1) <| And.intro (fun hg => hg) <| bind_elim h fun x2 hx2 h => And.intro (fun hg => hg) <| And.intro rfl ?_
  refine CallF.mk _ false (fun hg => uri_bytes_ok E (a0.Query) x2 (gcall_some hx2 hg)) (And.intro rfl ?_)
  refine And.intro (fun hg => hg) <| And.intro (fun hg => (and_r hg)) <| And.intro (fun hg => hg) <| bind_elim h fun x3 hx3 h => And.intro (fun hg => hg) <| And.intro rfl ?_
  refine CallF.mk _ false (fun hg => strings_Contains_ok E (a0.Path) ([63] : Bytes) x3 (gcall_some hx3 hg)) (And.intro rfl ?_)
  refine And.intro (fun hg => (and_r hg)) <| And.intro (fun hg => hg) <| And.intro (fun hg => hg) <| And.intro (fun hg => hg) <| And.intro (fun hg => hg) <| And.intro (fun hg => hg) <| And.intro (fun hg => hg) <| And.intro (fun hg => hg) <| And.intro (fun hg => (and_r hg)) <| And.intro (fun hg => hg) <| And.intro (fun hg => hg) <| And.intro (fun hg => (and_r hg)) <| And.intro (fun hg => hg) <| And.intro (fun hg => hg) <| And.intro (fun hg => (and_r hg)) <| And.intro ⟨Nat.le_of_ble_eq_true rfl, Nat.le_of_ble_eq_true rfl⟩ <| NormE.to (S_Uri.av a0) (fun _ => rfl) <| bind_elim h fun x4 hx4 h => And.intro (fun hg => hg) <| And.intro rfl ?_
  refine CallF.mk _ false (fun hg => uri_write_ok E a0 x4 (gcall_some hx4 hg)) (And.intro rfl ?_)
  refine And.intro (fun hg => hg) <| NormE.same <| And.intro (fun hg => hg) <| And.intro (fun hg => (and_r hg)) ?_
  refine SeqN.via (St.of [⟨1, AV.ptr 0 0, none⟩, ⟨46, AV.bool (bif (bif (bif (bif (bif (bif (!x1) then true else (!x2)) then true else x3) then true else (bif (!(a0.Asks)) then (!(a0.Query == ([] : Bytes))) else false)) then true else (decide ((a0.Port) < (0 : Int)))) then true else (decide ((a0.Port) > (65535 : Int)))) then true else (decide ((x4.length : Int) > (500 : Int)))), none⟩] [.cells 164 (S_Uri.cells a0) []] []) ?_ ?_
  · refine Gho.to _ _ _ [] ?_ ?_ ?_ rfl rfl ?_
    · exact ⟨⟨rfl, rfl, rfl⟩, trivial⟩
    · exact rfl
    · exact rfl
    · exact ⟨rfl, rfl, trivial, rfl, rfl, trivial, trivial⟩
  refine Br.mk (fun ht => ?_) (fun ht => ?_)
  · replace h := cond_tt h ht
    refine SeqJ.go <| SeqN.go ?_
    replace h := Option.some.inj h
    refine RetE.plain ?_
    exact And.intro rfl (And.intro (congrArg (fun r : Bool => AV.bool r) h) rfl)
  · replace h := cond_ff h ht
    refine SeqN.go <| SeqJ.go <| SeqJ.go <| SeqN.go ?_
    refine Br.mk (fun ht => ?_) (fun ht => ?_)
    · replace h := cond_tt h ht
      refine SeqJ.go <| bind_elim h fun x5 hx5 h => CallH.data _ false rfl (uri_host_ok E (a0.Host) x5 hx5) <| And.intro (fun hg => hg) <| bind_elim h fun x6 hx6 h => And.intro (fun hg => hg) <| And.intro rfl ?_
      refine CallF.mk _ false (fun hg => strings_HasPrefix_ok E (a0.Path) ([47] : Bytes) x6 (gcall_some hx6 hg)) (And.intro rfl ?_)
      refine And.intro (fun hg => (and_r hg)) <| SeqN.go ?_
      replace h := Option.some.inj h
      refine RetE.plain ?_
      exact And.intro rfl (And.intro (congrArg (fun r : Bool => AV.bool r) h) rfl)
    · replace h := cond_ff h ht
      refine SeqN.go <| SeqJ.go <| bind_elim h fun x7 hx7 h => CallH.data _ false rfl (strings_Cut_ok E (a0.Path) ([47] : Bytes) x7 hx7) <| SeqN.go <| SeqJ.go <| And.intro (fun hg => hg) <| And.intro (fun hg => hg) <| And.intro (fun hg => (and_r hg)) <| And.intro (fun hg => hg) <| bind_elim h fun x8 hx8 h => And.intro (fun hg => hg) <| And.intro rfl ?_
      refine CallF.mk _ false (fun hg => strings_HasPrefix_ok E (a0.Path) ([47, 47] : Bytes) x8 (gcall_some hx8 hg)) (And.intro rfl ?_)
      refine And.intro (fun hg => hg) <| And.intro (fun hg => (and_r hg)) <| bind_elim h fun x9 hx9 h => And.intro (fun hg => hg) <| And.intro rfl ?_
      refine CallF.mk _ false (fun hg => strings_Contains_ok E (x7.1) ([58] : Bytes) x9 (gcall_some hx9 hg)) (And.intro rfl ?_)
      refine And.intro (fun hg => hg) <| And.intro (fun hg => (and_r hg)) ?_
      refine SeqN.via (St.of [⟨2, AV.bool (bif (bif (bif (a0.Host == ([] : Bytes)) then ((a0.Port) == (0 : Int)) else false) then (!x8) else false) then (!x9) else false), none⟩] [] []) ?_ ?_
      · refine Gho.to _ _ _ [] ?_ ?_ ?_ rfl rfl ?_
        · exact trivial
        · exact rfl
        · exact rfl
        · exact ⟨rfl, rfl, trivial, trivial⟩
      replace h := Option.some.inj h
      refine RetE.plain ?_
      exact And.intro rfl (And.intro (congrArg (fun r : Bool => AV.bool r) h) rfl)

theorem uri_Parse_ok (E : Pm.Env) [LaidE E] (a0 : Bytes) (r : (S_Uri × Int)) (h : uri_Parse a0 = some r) : FnR E Tryz.prog 156 [AV.str a0] (AV.tup [S_Uri.av (r.1), AV.int .i64 (r.2)]) false := by
  refine FnR.of_ev (T := T) (rows := []) tOk mixed Tryz.func156 rfl (by kernel_rfl) (by kernel_rfl) rfl fun hwf => ?_
  unfold uri_Parse at h
  refine SeqJ.go <| And.intro rfl <| SeqN.go <| SeqJ.go <| SeqJ.go <| NormE.same <| SeqN.go ?_
  refine Br.mk (fun ht => ?_) (fun ht => ?_)
  · replace h := cond_tt h ht
    refine SeqJ.go ?_
    refine And.intro ⟨rfl, rfl, rfl, Nat.le_of_ble_eq_true rfl⟩ (Exists.intro [AV.bool false, AV.str ([] : Bytes), AV.int .i64 (0 : Int), AV.str ([] : Bytes), AV.bool false, AV.str ([] : Bytes)] (And.intro (fun _ => rfl) ?_))
    refine SeqN.go ?_
    replace h := Option.some.inj h
    refine RetE.plain ?_
    refine And.intro ⟨Nat.le_of_ble_eq_true rfl, Nat.le_of_ble_eq_true rfl⟩ (Exists.intro (AV.agg [AV.bool false, AV.str ([] : Bytes), AV.int .i64 (0 : Int), AV.str ([] : Bytes), AV.bool false, AV.str ([] : Bytes)]) (And.intro rfl ?_))
    exact And.intro rfl (And.intro (congrArg (fun r : (S_Uri × Int) => AV.tup [S_Uri.av (r.1), AV.int .i64 (r.2)]) h) rfl)
  · replace h := cond_ff h ht
    refine SeqN.go <| SeqJ.go <| And.intro rfl <| SeqN.go <| SeqJ.go <| SeqN.go <| SeqJ.go <| SeqJ.go <| SeqN.go <| SeqJ.go <| NormE.same <| bind_elim h fun x1 hx1 h => ?_
    have qx1 := (gslc_some hx1).1
    have hx1e := (gslc_some hx1).2
    refine And.intro (fun hg => hg) <| And.intro (fun hg => hg) <| And.intro qx1 <| NormE.to (AV.str x1) (fun _ => congrArg AV.str hx1e.symm) <| bind_elim h fun x2 hx2 h => And.intro (fun hg => hg) <| And.intro rfl ?_
    refine CallF.mk _ false (fun hg => text_Same_ok E x1 ([104, 116, 116, 112, 58, 47, 47] : Bytes) x2 (gcall_some hx2 hg)) (And.intro rfl ?_)
    refine And.intro (fun hg => (and_r hg)) ?_
    refine SeqN.via (St.of [⟨0, AV.str a0, none⟩, ⟨2, AV.ptr 0 0, none⟩, ⟨4, AV.ptr 1 0, none⟩, ⟨5, AV.bool true, none⟩, ⟨6, AV.int .i64 (7 : Int), none⟩, ⟨21, AV.bool (bif (decide ((a0.length : Int) ≥ (7 : Int))) then x2 else false), none⟩] [.cells 164 [AV.bool false, AV.str ([] : Bytes), AV.int .i64 (0 : Int), AV.str ([] : Bytes), AV.bool false, AV.str ([] : Bytes)] [], .cells 164 [AV.bool false, AV.str ([] : Bytes), AV.int .i64 (0 : Int), AV.str ([] : Bytes), AV.bool false, AV.str ([] : Bytes)] []] []) ?_ ?_
    · refine Gho.to _ _ _ [] ?_ ?_ ?_ rfl rfl ?_
      · exact ⟨⟨rfl, rfl, rfl⟩, ⟨⟨rfl, rfl, rfl⟩, trivial⟩⟩
      · exact rfl
      · exact rfl
      · exact ⟨rfl, rfl, trivial, rfl, rfl, trivial, rfl, rfl, trivial, rfl, rfl, trivial, rfl, rfl, trivial, rfl, rfl, trivial, trivial⟩
    refine Br.mk (fun ht => ?_) (fun ht => ?_)
    · replace h := cond_tt h ht
      refine SeqJ.go <| bind_elim h fun x3 hx3 h => ?_
      have qx3 := (slc_some hx3).1
      have hx3e := (slc_some hx3).2
      refine And.intro (fun _ => qx3) <| NormE.to (AV.str x3) (fun _ => congrArg AV.str hx3e.symm) <| SeqN.go <| SeqJ.go <| bind_elim h fun x4 hx4 h => CallH.data _ false rfl (strings_IndexAny_ok E x3 ([47, 63] : Bytes) x4 hx4) <| SeqN.go <| SeqJ.go <| SeqJ.go <| SeqN.go ?_
      refine Br.mk (fun ht => ?_) (fun ht => ?_)
      · replace h := cond_tt h ht
        refine NormE.same <| SeqN.go <| SeqJ.go <| bind_elim h fun x5 hx5 h => ?_
        have qx5 := (slc_some hx5).1
        have hx5e := (slc_some hx5).2
        refine And.intro (fun _ => qx5) <| NormE.to (AV.str x5) (fun _ => congrArg AV.str hx5e.symm) <| And.intro ⟨Nat.le_of_ble_eq_true rfl, Nat.le_of_ble_eq_true rfl⟩ <| NormE.to (AV.agg [AV.bool false, AV.str ([] : Bytes), AV.int .i64 (0 : Int), AV.str ([] : Bytes), AV.bool false, AV.str ([] : Bytes)]) (fun _ => rfl) <| bind_elim h fun x6 hx6 h => CallH.data _ false rfl (uri_place_ok E x5 (S_Uri.mk false ([] : Bytes) (0 : Int) ([] : Bytes) false ([] : Bytes)) x6 hx6) ?_
        refine And.intro ⟨rfl, rfl, rfl, Nat.le_of_ble_eq_true rfl⟩ (Exists.intro (S_Uri.cells (x6.1)) (And.intro (fun _ => rfl) ?_))
        refine And.intro (by kernel_rfl) ?_
        refine SeqN.via (St.of [⟨0, AV.str x3, none⟩, ⟨2, AV.ptr 0 0, none⟩, ⟨4, AV.ptr 1 0, none⟩, ⟨5, AV.bool (x6.2), none⟩, ⟨7, AV.int .i64 (x3.length : Int), none⟩] [.cells 164 [AV.bool false, AV.str ([] : Bytes), AV.int .i64 (0 : Int), AV.str ([] : Bytes), AV.bool false, AV.str ([] : Bytes)] [], .cells 164 (S_Uri.cells (x6.1)) []] []) ?_ ?_
        · refine Gho.to _ _ _ [] ?_ ?_ ?_ rfl rfl ?_
          · exact ⟨⟨rfl, rfl, rfl⟩, ⟨⟨rfl, rfl, rfl⟩, trivial⟩⟩
          · exact rfl
          · exact rfl
          · exact ⟨rfl, rfl, trivial, rfl, rfl, trivial, rfl, rfl, trivial, rfl, rfl, trivial, rfl, rfl, trivial, trivial⟩
        refine SeqJ.go <| bind_elim h fun x7 hx7 h => ?_
        have qx7 := (slc_some hx7).1
        have hx7e := (slc_some hx7).2
        refine And.intro (fun _ => qx7) <| NormE.to (AV.str x7) (fun _ => congrArg AV.str hx7e.symm) <| SeqN.go <| SeqJ.go <| bind_elim h fun x8 hx8 h => And.intro (fun hg => hg) ?_
        refine Exists.intro x8 (And.intro (fun hg => gidx_some hx8 hg) ?_)
        refine And.intro (fun hg => hg) <| And.intro (fun hg => (and_r hg)) <| SeqN.go ?_
        refine Br.mk (fun ht => ?_) (fun ht => ?_)
        · replace h := cond_tt h ht
          refine bind_elim h fun x9 hx9 h => ?_
          have hx9c := (cat_some hx9).1
          have hx9e := (cat_some hx9).2
          refine And.intro (fun _ => hx9c) <| NormE.to (AV.str x9) (fun _ => congrArg AV.str hx9e.symm) <| SeqN.go <| SeqJ.go <| SeqJ.go <| And.intro ⟨Nat.le_of_ble_eq_true rfl, Nat.le_of_ble_eq_true rfl⟩ <| NormE.to (S_Uri.av (x6.1)) (fun _ => rfl) <| bind_elim h fun x10 hx10 h => CallH.data _ false rfl (uri_path_ok E x9 (x6.1) x10 hx10) ?_
          refine And.intro ⟨rfl, rfl, rfl, Nat.le_of_ble_eq_true rfl⟩ (Exists.intro (S_Uri.cells x10) (And.intro (fun _ => rfl) ?_))
          refine SeqN.via (St.of [⟨2, AV.ptr 0 0, none⟩, ⟨4, AV.ptr 1 0, none⟩, ⟨5, AV.bool (x6.2), none⟩] [.cells 164 [AV.bool false, AV.str ([] : Bytes), AV.int .i64 (0 : Int), AV.str ([] : Bytes), AV.bool false, AV.str ([] : Bytes)] [], .cells 164 (S_Uri.cells x10) []] []) ?_ ?_
          · refine Gho.to _ _ _ [] ?_ ?_ ?_ rfl rfl ?_
            · exact ⟨⟨rfl, rfl, rfl⟩, ⟨⟨rfl, rfl, rfl⟩, trivial⟩⟩
            · exact rfl
            · exact rfl
            · exact ⟨rfl, rfl, trivial, rfl, rfl, trivial, rfl, rfl, trivial, trivial⟩
          refine SeqJ.go <| And.intro ⟨Nat.le_of_ble_eq_true rfl, Nat.le_of_ble_eq_true rfl⟩ <| NormE.to (S_Uri.av x10) (fun _ => rfl) <| bind_elim h fun x11 hx11 h => And.intro (fun hg => hg) <| And.intro rfl ?_
          refine CallF.mk _ false (fun hg => uri_Right_ok E x10 x11 (gcall_some hx11 hg)) (And.intro rfl ?_)
          refine And.intro (fun hg => hg) <| And.intro (fun hg => (and_r hg)) <| SeqN.go ?_
          refine Br.mk (fun ht => ?_) (fun ht => ?_)
          · replace h := cond_tt h ht
            refine SeqJ.go ?_
            refine And.intro ⟨rfl, rfl, rfl, Nat.le_of_ble_eq_true rfl⟩ (Exists.intro [AV.bool false, AV.str ([] : Bytes), AV.int .i64 (0 : Int), AV.str ([] : Bytes), AV.bool false, AV.str ([] : Bytes)] (And.intro (fun _ => rfl) ?_))
            refine SeqN.go ?_
            replace h := Option.some.inj h
            refine RetE.plain ?_
            refine And.intro ⟨Nat.le_of_ble_eq_true rfl, Nat.le_of_ble_eq_true rfl⟩ (Exists.intro (AV.agg [AV.bool false, AV.str ([] : Bytes), AV.int .i64 (0 : Int), AV.str ([] : Bytes), AV.bool false, AV.str ([] : Bytes)]) (And.intro rfl ?_))
            exact And.intro rfl (And.intro (congrArg (fun r : (S_Uri × Int) => AV.tup [S_Uri.av (r.1), AV.int .i64 (r.2)]) h) rfl)
          · replace h := cond_ff h ht
            refine SeqN.go <| SeqJ.go <| And.intro ⟨Nat.le_of_ble_eq_true rfl, Nat.le_of_ble_eq_true rfl⟩ <| NormE.to (S_Uri.av x10) (fun _ => rfl) ?_
            refine And.intro ⟨rfl, rfl, rfl, Nat.le_of_ble_eq_true rfl⟩ (Exists.intro (S_Uri.cells x10) (And.intro (fun _ => rfl) ?_))
            refine SeqN.go ?_
            replace h := Option.some.inj h
            refine RetE.plain ?_
            refine And.intro ⟨Nat.le_of_ble_eq_true rfl, Nat.le_of_ble_eq_true rfl⟩ (Exists.intro (S_Uri.av x10) (And.intro rfl ?_))
            exact And.intro rfl (And.intro (congrArg (fun r : (S_Uri × Int) => AV.tup [S_Uri.av (r.1), AV.int .i64 (r.2)]) h) rfl)
        · replace h := cond_ff h ht
          refine SeqN.go <| SeqJ.go <| SeqJ.go <| And.intro ⟨Nat.le_of_ble_eq_true rfl, Nat.le_of_ble_eq_true rfl⟩ <| NormE.to (S_Uri.av (x6.1)) (fun _ => rfl) <| bind_elim h fun x12 hx12 h => CallH.data _ false rfl (uri_path_ok E x7 (x6.1) x12 hx12) ?_
          refine And.intro ⟨rfl, rfl, rfl, Nat.le_of_ble_eq_true rfl⟩ (Exists.intro (S_Uri.cells x12) (And.intro (fun _ => rfl) ?_))
          refine SeqN.go <| SeqJ.go <| And.intro ⟨Nat.le_of_ble_eq_true rfl, Nat.le_of_ble_eq_true rfl⟩ <| NormE.to (S_Uri.av x12) (fun _ => rfl) <| bind_elim h fun x13 hx13 h => And.intro (fun hg => hg) <| And.intro rfl ?_
          refine CallF.mk _ false (fun hg => uri_Right_ok E x12 x13 (gcall_some hx13 hg)) (And.intro rfl ?_)
          refine And.intro (fun hg => hg) <| And.intro (fun hg => (and_r hg)) ?_
          refine SeqN.via (St.of [⟨2, AV.ptr 0 0, none⟩, ⟨4, AV.ptr 1 0, none⟩, ⟨60, AV.bool (bif (!(x6.2)) then true else (!x13)), none⟩] [.cells 164 [AV.bool false, AV.str ([] : Bytes), AV.int .i64 (0 : Int), AV.str ([] : Bytes), AV.bool false, AV.str ([] : Bytes)] [], .cells 164 (S_Uri.cells x12) []] []) ?_ ?_
          · refine Gho.to _ _ _ [] ?_ ?_ ?_ rfl rfl ?_
            · exact ⟨⟨rfl, rfl, rfl⟩, ⟨⟨rfl, rfl, rfl⟩, trivial⟩⟩
            · exact rfl
            · exact rfl
            · exact ⟨rfl, rfl, trivial, rfl, rfl, trivial, rfl, rfl, trivial, trivial⟩
          refine Br.mk (fun ht => ?_) (fun ht => ?_)
          · replace h := cond_tt h ht
            refine SeqJ.go ?_
            refine And.intro ⟨rfl, rfl, rfl, Nat.le_of_ble_eq_true rfl⟩ (Exists.intro [AV.bool false, AV.str ([] : Bytes), AV.int .i64 (0 : Int), AV.str ([] : Bytes), AV.bool false, AV.str ([] : Bytes)] (And.intro (fun _ => rfl) ?_))
            refine SeqN.go ?_
            replace h := Option.some.inj h
            refine RetE.plain ?_
            refine And.intro ⟨Nat.le_of_ble_eq_true rfl, Nat.le_of_ble_eq_true rfl⟩ (Exists.intro (AV.agg [AV.bool false, AV.str ([] : Bytes), AV.int .i64 (0 : Int), AV.str ([] : Bytes), AV.bool false, AV.str ([] : Bytes)]) (And.intro rfl ?_))
            exact And.intro rfl (And.intro (congrArg (fun r : (S_Uri × Int) => AV.tup [S_Uri.av (r.1), AV.int .i64 (r.2)]) h) rfl)
          · replace h := cond_ff h ht
            refine SeqN.go <| SeqJ.go <| And.intro ⟨Nat.le_of_ble_eq_true rfl, Nat.le_of_ble_eq_true rfl⟩ <| NormE.to (S_Uri.av x12) (fun _ => rfl) ?_
            refine And.intro ⟨rfl, rfl, rfl, Nat.le_of_ble_eq_true rfl⟩ (Exists.intro (S_Uri.cells x12) (And.intro (fun _ => rfl) ?_))
            refine SeqN.go ?_
            replace h := Option.some.inj h
            refine RetE.plain ?_
            refine And.intro ⟨Nat.le_of_ble_eq_true rfl, Nat.le_of_ble_eq_true rfl⟩ (Exists.intro (S_Uri.av x12) (And.intro rfl ?_))
            exact And.intro rfl (And.intro (congrArg (fun r : (S_Uri × Int) => AV.tup [S_Uri.av (r.1), AV.int .i64 (r.2)]) h) rfl)
      · replace h := cond_ff h ht
        refine SeqN.go <| SeqJ.go <| bind_elim h fun x14 hx14 h => ?_
        have qx14 := (slc_some hx14).1
        have hx14e := (slc_some hx14).2
        refine And.intro (fun _ => qx14) <| NormE.to (AV.str x14) (fun _ => congrArg AV.str hx14e.symm) <| And.intro ⟨Nat.le_of_ble_eq_true rfl, Nat.le_of_ble_eq_true rfl⟩ <| NormE.to (AV.agg [AV.bool false, AV.str ([] : Bytes), AV.int .i64 (0 : Int), AV.str ([] : Bytes), AV.bool false, AV.str ([] : Bytes)]) (fun _ => rfl) <| bind_elim h fun x15 hx15 h => CallH.data _ false rfl (uri_place_ok E x14 (S_Uri.mk false ([] : Bytes) (0 : Int) ([] : Bytes) false ([] : Bytes)) x15 hx15) ?_
        refine And.intro ⟨rfl, rfl, rfl, Nat.le_of_ble_eq_true rfl⟩ (Exists.intro (S_Uri.cells (x15.1)) (And.intro (fun _ => rfl) ?_))
        refine And.intro (by kernel_rfl) ?_
        refine SeqN.via (St.of [⟨0, AV.str x3, none⟩, ⟨2, AV.ptr 0 0, none⟩, ⟨4, AV.ptr 1 0, none⟩, ⟨5, AV.bool (x15.2), none⟩, ⟨7, AV.int .i64 x4, none⟩] [.cells 164 [AV.bool false, AV.str ([] : Bytes), AV.int .i64 (0 : Int), AV.str ([] : Bytes), AV.bool false, AV.str ([] : Bytes)] [], .cells 164 (S_Uri.cells (x15.1)) []] []) ?_ ?_
        · refine Gho.to _ _ _ [] ?_ ?_ ?_ rfl rfl ?_
          · exact ⟨⟨rfl, rfl, rfl⟩, ⟨⟨rfl, rfl, rfl⟩, trivial⟩⟩
          · exact rfl
          · exact rfl
          · exact ⟨rfl, rfl, trivial, rfl, rfl, trivial, rfl, rfl, trivial, rfl, rfl, trivial, rfl, rfl, trivial, trivial⟩
        refine SeqJ.go <| bind_elim h fun x16 hx16 h => ?_
        have qx16 := (slc_some hx16).1
        have hx16e := (slc_some hx16).2
        refine And.intro (fun _ => qx16) <| NormE.to (AV.str x16) (fun _ => congrArg AV.str hx16e.symm) <| SeqN.go <| SeqJ.go <| bind_elim h fun x17 hx17 h => And.intro (fun hg => hg) ?_
        refine Exists.intro x17 (And.intro (fun hg => gidx_some hx17 hg) ?_)
        refine And.intro (fun hg => hg) <| And.intro (fun hg => (and_r hg)) <| SeqN.go ?_
        refine Br.mk (fun ht => ?_) (fun ht => ?_)
        · replace h := cond_tt h ht
          refine bind_elim h fun x18 hx18 h => ?_
          have hx18c := (cat_some hx18).1
          have hx18e := (cat_some hx18).2
          refine And.intro (fun _ => hx18c) <| NormE.to (AV.str x18) (fun _ => congrArg AV.str hx18e.symm) <| SeqN.go <| SeqJ.go <| SeqJ.go <| And.intro ⟨Nat.le_of_ble_eq_true rfl, Nat.le_of_ble_eq_true rfl⟩ <| NormE.to (S_Uri.av (x15.1)) (fun _ => rfl) <| bind_elim h fun x19 hx19 h => CallH.data _ false rfl (uri_path_ok E x18 (x15.1) x19 hx19) ?_
          refine And.intro ⟨rfl, rfl, rfl, Nat.le_of_ble_eq_true rfl⟩ (Exists.intro (S_Uri.cells x19) (And.intro (fun _ => rfl) ?_))
          refine SeqN.via (St.of [⟨2, AV.ptr 0 0, none⟩, ⟨4, AV.ptr 1 0, none⟩, ⟨5, AV.bool (x15.2), none⟩] [.cells 164 [AV.bool false, AV.str ([] : Bytes), AV.int .i64 (0 : Int), AV.str ([] : Bytes), AV.bool false, AV.str ([] : Bytes)] [], .cells 164 (S_Uri.cells x19) []] []) ?_ ?_
          · refine Gho.to _ _ _ [] ?_ ?_ ?_ rfl rfl ?_
            · exact ⟨⟨rfl, rfl, rfl⟩, ⟨⟨rfl, rfl, rfl⟩, trivial⟩⟩
            · exact rfl
            · exact rfl
            · exact ⟨rfl, rfl, trivial, rfl, rfl, trivial, rfl, rfl, trivial, trivial⟩
          refine SeqJ.go <| And.intro ⟨Nat.le_of_ble_eq_true rfl, Nat.le_of_ble_eq_true rfl⟩ <| NormE.to (S_Uri.av x19) (fun _ => rfl) <| bind_elim h fun x20 hx20 h => And.intro (fun hg => hg) <| And.intro rfl ?_
          refine CallF.mk _ false (fun hg => uri_Right_ok E x19 x20 (gcall_some hx20 hg)) (And.intro rfl ?_)
          refine And.intro (fun hg => hg) <| And.intro (fun hg => (and_r hg)) <| SeqN.go ?_
          refine Br.mk (fun ht => ?_) (fun ht => ?_)
          · replace h := cond_tt h ht
            refine SeqJ.go ?_
            refine And.intro ⟨rfl, rfl, rfl, Nat.le_of_ble_eq_true rfl⟩ (Exists.intro [AV.bool false, AV.str ([] : Bytes), AV.int .i64 (0 : Int), AV.str ([] : Bytes), AV.bool false, AV.str ([] : Bytes)] (And.intro (fun _ => rfl) ?_))
            refine SeqN.go ?_
            replace h := Option.some.inj h
            refine RetE.plain ?_
            refine And.intro ⟨Nat.le_of_ble_eq_true rfl, Nat.le_of_ble_eq_true rfl⟩ (Exists.intro (AV.agg [AV.bool false, AV.str ([] : Bytes), AV.int .i64 (0 : Int), AV.str ([] : Bytes), AV.bool false, AV.str ([] : Bytes)]) (And.intro rfl ?_))
            exact And.intro rfl (And.intro (congrArg (fun r : (S_Uri × Int) => AV.tup [S_Uri.av (r.1), AV.int .i64 (r.2)]) h) rfl)
          · replace h := cond_ff h ht
            refine SeqN.go <| SeqJ.go <| And.intro ⟨Nat.le_of_ble_eq_true rfl, Nat.le_of_ble_eq_true rfl⟩ <| NormE.to (S_Uri.av x19) (fun _ => rfl) ?_
            refine And.intro ⟨rfl, rfl, rfl, Nat.le_of_ble_eq_true rfl⟩ (Exists.intro (S_Uri.cells x19) (And.intro (fun _ => rfl) ?_))
            refine SeqN.go ?_
            replace h := Option.some.inj h
            refine RetE.plain ?_
            refine And.intro ⟨Nat.le_of_ble_eq_true rfl, Nat.le_of_ble_eq_true rfl⟩ (Exists.intro (S_Uri.av x19) (And.intro rfl ?_))
            exact And.intro rfl (And.intro (congrArg (fun r : (S_Uri × Int) => AV.tup [S_Uri.av (r.1), AV.int .i64 (r.2)]) h) rfl)
        · replace h := cond_ff h ht
          refine SeqN.go <| SeqJ.go <| SeqJ.go <| And.intro ⟨Nat.le_of_ble_eq_true rfl, Nat.le_of_ble_eq_true rfl⟩ <| NormE.to (S_Uri.av (x15.1)) (fun _ => rfl) <| bind_elim h fun x21 hx21 h => CallH.data _ false rfl (uri_path_ok E x16 (x15.1) x21 hx21) ?_
          refine And.intro ⟨rfl, rfl, rfl, Nat.le_of_ble_eq_true rfl⟩ (Exists.intro (S_Uri.cells x21) (And.intro (fun _ => rfl) ?_))
          refine SeqN.go <| SeqJ.go <| And.intro ⟨Nat.le_of_ble_eq_true rfl, Nat.le_of_ble_eq_true rfl⟩ <| NormE.to (S_Uri.av x21) (fun _ => rfl) <| bind_elim h fun x22 hx22 h => And.intro (fun hg => hg) <| And.intro rfl ?_
          refine CallF.mk _ false (fun hg => uri_Right_ok E x21 x22 (gcall_some hx22 hg)) (And.intro rfl ?_)
          refine And.intro (fun hg => hg) <| And.intro (fun hg => (and_r hg)) ?_
          refine SeqN.via (St.of [⟨2, AV.ptr 0 0, none⟩, ⟨4, AV.ptr 1 0, none⟩, ⟨60, AV.bool (bif (!(x15.2)) then true else (!x22)), none⟩] [.cells 164 [AV.bool false, AV.str ([] : Bytes), AV.int .i64 (0 : Int), AV.str ([] : Bytes), AV.bool false, AV.str ([] : Bytes)] [], .cells 164 (S_Uri.cells x21) []] []) ?_ ?_
          · refine Gho.to _ _ _ [] ?_ ?_ ?_ rfl rfl ?_
            · exact ⟨⟨rfl, rfl, rfl⟩, ⟨⟨rfl, rfl, rfl⟩, trivial⟩⟩
            · exact rfl
            · exact rfl
            · exact ⟨rfl, rfl, trivial, rfl, rfl, trivial, rfl, rfl, trivial, trivial⟩
          refine Br.mk (fun ht => ?_) (fun ht => ?_)
          · replace h := cond_tt h ht
            refine SeqJ.go ?_
            refine And.intro ⟨rfl, rfl, rfl, Nat.le_of_ble_eq_true rfl⟩ (Exists.intro [AV.bool false, AV.str ([] : Bytes), AV.int .i64 (0 : Int), AV.str ([] : Bytes), AV.bool false, AV.str ([] : Bytes)] (And.intro (fun _ => rfl) ?_))
            refine SeqN.go ?_
            replace h := Option.some.inj h
            refine RetE.plain ?_
            refine And.intro ⟨Nat.le_of_ble_eq_true rfl, Nat.le_of_ble_eq_true rfl⟩ (Exists.intro (AV.agg [AV.bool false, AV.str ([] : Bytes), AV.int .i64 (0 : Int), AV.str ([] : Bytes), AV.bool false, AV.str ([] : Bytes)]) (And.intro rfl ?_))
            exact And.intro rfl (And.intro (congrArg (fun r : (S_Uri × Int) => AV.tup [S_Uri.av (r.1), AV.int .i64 (r.2)]) h) rfl)
          · replace h := cond_ff h ht
            refine SeqN.go <| SeqJ.go <| And.intro ⟨Nat.le_of_ble_eq_true rfl, Nat.le_of_ble_eq_true rfl⟩ <| NormE.to (S_Uri.av x21) (fun _ => rfl) ?_
            refine And.intro ⟨rfl, rfl, rfl, Nat.le_of_ble_eq_true rfl⟩ (Exists.intro (S_Uri.cells x21) (And.intro (fun _ => rfl) ?_))
            refine SeqN.go ?_
            replace h := Option.some.inj h
            refine RetE.plain ?_
            refine And.intro ⟨Nat.le_of_ble_eq_true rfl, Nat.le_of_ble_eq_true rfl⟩ (Exists.intro (S_Uri.av x21) (And.intro rfl ?_))
            exact And.intro rfl (And.intro (congrArg (fun r : (S_Uri × Int) => AV.tup [S_Uri.av (r.1), AV.int .i64 (r.2)]) h) rfl)
    · replace h := cond_ff h ht
      refine SeqN.go <| SeqJ.go <| SeqJ.go <| And.intro ⟨Nat.le_of_ble_eq_true rfl, Nat.le_of_ble_eq_true rfl⟩ <| NormE.to (AV.agg [AV.bool false, AV.str ([] : Bytes), AV.int .i64 (0 : Int), AV.str ([] : Bytes), AV.bool false, AV.str ([] : Bytes)]) (fun _ => rfl) <| bind_elim h fun x23 hx23 h => CallH.data _ false rfl (uri_path_ok E a0 (S_Uri.mk false ([] : Bytes) (0 : Int) ([] : Bytes) false ([] : Bytes)) x23 hx23) ?_
      refine And.intro ⟨rfl, rfl, rfl, Nat.le_of_ble_eq_true rfl⟩ (Exists.intro (S_Uri.cells x23) (And.intro (fun _ => rfl) ?_))
      refine SeqN.go <| SeqJ.go <| And.intro ⟨Nat.le_of_ble_eq_true rfl, Nat.le_of_ble_eq_true rfl⟩ <| NormE.to (S_Uri.av x23) (fun _ => rfl) <| bind_elim h fun x24 hx24 h => And.intro (fun hg => hg) <| And.intro rfl ?_
      refine CallF.mk _ false (fun hg => uri_Right_ok E x23 x24 (gcall_some hx24 hg)) (And.intro rfl ?_)
      refine And.intro (fun hg => hg) <| And.intro (fun hg => (and_r hg)) <| SeqN.go ?_
      refine Br.mk (fun ht => ?_) (fun ht => ?_)
      · replace h := cond_tt h ht
        refine SeqJ.go ?_
        refine And.intro ⟨rfl, rfl, rfl, Nat.le_of_ble_eq_true rfl⟩ (Exists.intro [AV.bool false, AV.str ([] : Bytes), AV.int .i64 (0 : Int), AV.str ([] : Bytes), AV.bool false, AV.str ([] : Bytes)] (And.intro (fun _ => rfl) ?_))
        refine SeqN.go ?_
        replace h := Option.some.inj h
        refine RetE.plain ?_
        refine And.intro ⟨Nat.le_of_ble_eq_true rfl, Nat.le_of_ble_eq_true rfl⟩ (Exists.intro (AV.agg [AV.bool false, AV.str ([] : Bytes), AV.int .i64 (0 : Int), AV.str ([] : Bytes), AV.bool false, AV.str ([] : Bytes)]) (And.intro rfl ?_))
        exact And.intro rfl (And.intro (congrArg (fun r : (S_Uri × Int) => AV.tup [S_Uri.av (r.1), AV.int .i64 (r.2)]) h) rfl)
      · replace h := cond_ff h ht
        refine SeqN.go <| SeqJ.go <| And.intro ⟨Nat.le_of_ble_eq_true rfl, Nat.le_of_ble_eq_true rfl⟩ <| NormE.to (S_Uri.av x23) (fun _ => rfl) ?_
        refine And.intro ⟨rfl, rfl, rfl, Nat.le_of_ble_eq_true rfl⟩ (Exists.intro (S_Uri.cells x23) (And.intro (fun _ => rfl) ?_))
        refine SeqN.go ?_
        replace h := Option.some.inj h
        refine RetE.plain ?_
        refine And.intro ⟨Nat.le_of_ble_eq_true rfl, Nat.le_of_ble_eq_true rfl⟩ (Exists.intro (S_Uri.av x23) (And.intro rfl ?_))
        exact And.intro rfl (And.intro (congrArg (fun r : (S_Uri × Int) => AV.tup [S_Uri.av (r.1), AV.int .i64 (r.2)]) h) rfl)

theorem route_host_ok (E : Pm.Env) [LaidE E] (a0 : Bytes) (r : Bool) (h : route_host a0 = some r) : FnR E Tryz.prog 157 [AV.str a0] (AV.bool r) false := by
  refine FnR.of_ev (T := T) (rows := []) tOk mixed Tryz.func157 rfl (by kernel_rfl) (by kernel_rfl) rfl fun hwf => ?_
  unfold route_host at h
  refine SeqJ.go <| SeqN.go <| SeqJ.go <| bind_elim h fun x1 hx1 h => ?_
  have hx1c := (cat_some hx1).1
  have hx1e := (cat_some hx1).2
  refine And.intro (fun _ => hx1c) <| NormE.to (AV.str x1) (fun _ => congrArg AV.str hx1e.symm) <| bind_elim h fun x2 hx2 h => ?_
  have hx2c := (cat_some hx2).1
  have hx2e := (cat_some hx2).2
  refine And.intro (fun _ => hx2c) <| NormE.to (AV.str x2) (fun _ => congrArg AV.str hx2e.symm) <| bind_elim h fun x3 hx3 h => CallH.data _ false rfl (uri_Parse_ok E x2 x3 hx3) <| And.intro rfl ?_
  refine And.intro ⟨rfl, rfl, rfl, Nat.le_of_ble_eq_true rfl⟩ (Exists.intro (S_Uri.cells (x3.1)) (And.intro (fun _ => rfl) ?_))
  refine SeqN.go <| SeqJ.go <| And.intro ⟨Nat.le_of_ble_eq_true rfl, Nat.le_of_ble_eq_true rfl⟩ <| NormE.to (S_Uri.av (x3.1)) (fun _ => rfl) <| And.intro ⟨rfl, rfl, Nat.le_of_ble_eq_true rfl⟩ <| And.intro (fun hg => hg) <| And.intro ⟨rfl, rfl, Nat.le_of_ble_eq_true rfl⟩ <| And.intro ⟨rfl, rfl, Nat.le_of_ble_eq_true rfl⟩ <| And.intro (fun hg => hg) <| And.intro (fun hg => hg) <| And.intro rfl <| And.intro (fun hg => (and_r hg)) ?_
  refine SeqN.via (St.of [⟨2, AV.bool (bif ((x3.2) == (0 : Int)) then ((((x3.1).Abs) == true) && ((((x3.1).Host) == a0) && ((((x3.1).Port) == (0 : Int)) && ((((x3.1).Path) == ([47] : Bytes)) && ((((x3.1).Asks) == false) && ((((x3.1).Query) == ([] : Bytes)) && true)))))) else false), none⟩] [] []) ?_ ?_
  · refine Gho.to _ _ _ [] ?_ ?_ ?_ rfl rfl ?_
    · exact trivial
    · exact rfl
    · exact rfl
    · exact ⟨rfl, rfl, trivial, trivial⟩
  replace h := Option.some.inj h
  refine RetE.plain ?_
  exact And.intro rfl (And.intro (congrArg (fun r : Bool => AV.bool r) h) rfl)

theorem route_right_ok (E : Pm.Env) [LaidE E] (a0 : S_Route) (r : Bool) (h : route_right a0 = some r) : FnR E Tryz.prog 108 [S_Route.av a0] (AV.bool r) false := by
  refine FnR.of_ev (T := T) (rows := []) tOk mixed Tryz.func108 rfl (by kernel_rfl) (by kernel_rfl) rfl fun hwf => ?_
  unfold route_right at h
  refine SeqJ.go <| And.intro rfl <| SeqN.go <| SeqJ.go <| bind_elim h fun x1 hx1 h => ?_
  have hx1c := (cat_some hx1).1
  have hx1e := (cat_some hx1).2
  refine And.intro (fun _ => hx1c) <| NormE.to (AV.str x1) (fun _ => congrArg AV.str hx1e.symm) <| bind_elim h fun x2 hx2 h => CallH.data _ false rfl (uri_Parse_ok E x1 x2 hx2) <| And.intro rfl ?_
  refine And.intro ⟨rfl, rfl, rfl, Nat.le_of_ble_eq_true rfl⟩ (Exists.intro (S_Uri.cells (x2.1)) (And.intro (fun _ => rfl) ?_))
  refine SeqN.go <| SeqJ.go <| And.intro ⟨Nat.le_of_ble_eq_true rfl, Nat.le_of_ble_eq_true rfl⟩ <| NormE.to (S_Uri.av (x2.1)) (fun _ => rfl) <| And.intro (fun hg => hg) <| And.intro ⟨rfl, rfl, Nat.le_of_ble_eq_true rfl⟩ <| And.intro ⟨rfl, rfl, Nat.le_of_ble_eq_true rfl⟩ <| And.intro (fun hg => hg) <| And.intro ⟨rfl, rfl, Nat.le_of_ble_eq_true rfl⟩ <| And.intro (fun hg => hg) <| And.intro (fun hg => hg) <| And.intro rfl <| And.intro (fun hg => (and_r hg)) ?_
  refine SeqN.via (St.of [⟨1, AV.ptr 0 0, none⟩, ⟨5, AV.bool (bif ((x2.2) == (0 : Int)) then ((((x2.1).Abs) == true) && ((((x2.1).Host) == ([104] : Bytes)) && ((((x2.1).Port) == (0 : Int)) && ((((x2.1).Path) == (a0.Prefix)) && ((((x2.1).Asks) == false) && ((((x2.1).Query) == ([] : Bytes)) && true)))))) else false), none⟩] [.cells 92 (S_Route.cells a0) []] []) ?_ ?_
  · refine Gho.to _ _ _ [] ?_ ?_ ?_ rfl rfl ?_
    · exact ⟨⟨rfl, rfl, rfl⟩, trivial⟩
    · exact rfl
    · exact rfl
    · exact ⟨rfl, rfl, trivial, rfl, rfl, trivial, trivial⟩
  refine SeqJ.go <| And.intro (fun hg => hg) <| bind_elim h fun x3 hx3 h => And.intro (fun hg => hg) <| And.intro rfl ?_
  refine CallF.mk _ false (fun hg => route_host_ok E (a0.Host) x3 (gcall_some hx3 hg)) (And.intro rfl ?_)
  refine And.intro (fun hg => (and_r hg)) <| And.intro (fun hg => hg) <| bind_elim h fun x4 hx4 h => And.intro (fun hg => hg) <| And.intro rfl ?_
  refine CallF.mk _ false (fun hg => route_host_ok E (a0.Origin) x4 (gcall_some hx4 hg)) (And.intro rfl ?_)
  refine And.intro (fun hg => (and_r hg)) <| And.intro (fun hg => (and_r hg)) <| And.intro (fun hg => hg) <| And.intro (fun hg => hg) <| NormE.same <| And.intro (fun hg => hg) <| And.intro (fun hg => (and_r hg)) ?_
  refine SeqN.via (St.of [⟨2, AV.bool (bif (bif (bif (bif (a0.Host == ([] : Bytes)) then true else x3) then x4 else false) then (bif ((x2.2) == (0 : Int)) then ((((x2.1).Abs) == true) && ((((x2.1).Host) == ([104] : Bytes)) && ((((x2.1).Port) == (0 : Int)) && ((((x2.1).Path) == (a0.Prefix)) && ((((x2.1).Asks) == false) && ((((x2.1).Query) == ([] : Bytes)) && true)))))) else false) else false) then (decide (((a0.Prefix).length : Int) ≤ (100 : Int))) else false), none⟩] [] []) ?_ ?_
  · refine Gho.to _ _ _ [] ?_ ?_ ?_ rfl rfl ?_
    · exact trivial
    · exact rfl
    · exact rfl
    · exact ⟨rfl, rfl, trivial, trivial⟩
  replace h := Option.some.inj h
  refine RetE.plain ?_
  exact And.intro rfl (And.intro (congrArg (fun r : Bool => AV.bool r) h) rfl)

theorem route_Right_ok (E : Pm.Env) [LaidE E] (a0 : (List S_Route)) (r : Bool) (h : route_Right a0 = some r) : FnR E Tryz.prog 51 [AV.list 3 (a0.map S_Route.av)] (AV.bool r) false := by
  refine FnR.of_ev (T := T) (rows := []) tOk mixed Tryz.func51 rfl (by kernel_rfl) (by kernel_rfl) rfl fun hwf => ?_
  unfold route_Right at h
  refine SeqJ.go <| SeqN.go <| SeqJ.go <| SeqN.go <| SeqJ.go <| SeqJ.go <| NormE.to (AV.int .i64 (a0.length : Int)) (fun _ => len_list S_Route.av a0) <| SeqN.go ?_
  refine LoopE.img (fun x : (Int × (List (S_route_key × Bool))) => St.of [⟨0, AV.list 3 (a0.map S_Route.av), none⟩, ⟨3, AV.mapv 0, none⟩, ⟨7, AV.list 3 (a0.map S_Route.av), none⟩, ⟨8, AV.int .i64 (a0.length : Int), none⟩, ⟨9, AV.int .i64 (x.1), none⟩] [.mp (.map (menc S_route_key.av AV.bool (x.2)))] []) (route_Right_b1 a0) ((0 : Int), ([] : List (S_route_key × Bool))) h ?_ ?_
  · refine Gho.to _ _ _ [] ?_ ?_ ?_ rfl rfl ?_
    · exact ⟨rfl, trivial⟩
    · exact rfl
    · exact rfl
    · exact ⟨rfl, rfl, trivial, rfl, rfl, trivial, rfl, rfl, trivial, rfl, rfl, trivial, rfl, rfl, trivial, trivial⟩
  intro n1 x y1 h hl1 hr1
  obtain ⟨s1, s2⟩ := x
  unfold route_Right_b1 at h
  dsimp only at h
  refine SeqJ.go <| SeqN.go <| SeqJ.go ?_
  refine Br.mk (fun ht => ?_) (fun ht => ?_)
  · replace h := cond_tt h ht
    refine SeqN.go <| SeqJ.go <| SeqJ.go <| bind_elim h fun x3 hx3 h => ?_
    refine And.intro rfl (Exists.intro (S_Route.av x3) (And.intro (fun hg => idx_map _ hx3) ?_))
    refine And.intro (Nat.le_of_ble_eq_true rfl) <| NormE.to (S_Route.av x3) (fun _ => rfl) <| And.intro rfl ?_
    refine And.intro ⟨rfl, rfl, rfl, Nat.le_of_ble_eq_true rfl⟩ (Exists.intro (S_Route.cells x3) (And.intro (fun _ => rfl) ?_))
    refine SeqN.go <| SeqJ.go <| SeqJ.go <| And.intro ⟨Nat.le_of_ble_eq_true rfl, Nat.le_of_ble_eq_true rfl⟩ <| NormE.to (S_Route.av x3) (fun _ => rfl) <| bind_elim h fun x4 hx4 h => CallH.data _ false rfl (route_right_ok E x3 x4 hx4) <| SeqN.go ?_
    refine Br.mk (fun ht => ?_) (fun ht => ?_)
    · replace h := cond_tt h ht
      refine SeqJ.go <| SeqN.go ?_
      replace h := Option.some.inj h
      replace h := hr1 _ h.symm
      refine RetE.plain ?_
      exact And.intro rfl (And.intro (congrArg (fun r : Bool => AV.bool r) h) rfl)
    · replace h := cond_ff h ht
      refine SeqN.go <| And.intro ⟨rfl, rfl, Nat.le_of_ble_eq_true rfl⟩ <| And.intro ⟨rfl, rfl, Nat.le_of_ble_eq_true rfl⟩ ?_
      refine And.intro ⟨rfl, rfl, rfl⟩ (Exists.intro (menc S_route_key.av AV.bool (mins s2 (S_route_key.mk (x3.Host) (x3.Prefix)) true)) (And.intro (ins_typed [0, 0] S_route_key.av AV.bool (fun _ _ => rfl) (S_route_key.mk (x3.Host) (x3.Prefix)) true s2) ?_))
      refine SeqN.go ?_
      replace h := Option.some.inj h
      refine Exists.intro ⟨(n1, ((IntKind.i64.wrap (s1 + (1 : Int))), (mins s2 (S_route_key.mk (x3.Host) (x3.Prefix)) true))), hl1 _ h.symm⟩ (And.intro (Nat.lt_succ_self _) ?_)
      refine Gho.to _ _ _ [] ?_ ?_ ?_ rfl rfl ?_
      · exact ⟨rfl, trivial⟩
      · exact rfl
      · exact rfl
      · exact ⟨rfl, rfl, trivial, rfl, rfl, trivial, rfl, rfl, trivial, rfl, rfl, trivial, rfl, rfl, trivial, trivial⟩
  · replace h := cond_ff h ht
    refine SeqN.go <| SeqJ.go <| NormE.to (AV.int .i64 (a0.length : Int)) (fun _ => len_list S_Route.av a0) <| chk_elim h fun q5 h => And.intro (fun hg => hg) ?_
    refine Exists.intro s2.length (And.intro ⟨menc_len _ _ _, q5⟩ ?_)
    refine NormE.same <| And.intro (fun hg => hg) <| NormE.to (AV.int .i64 (a0.length : Int)) (fun _ => len_list S_Route.av a0) <| And.intro (fun hg => hg) <| And.intro (fun hg => hg) <| And.intro (fun hg => (and_r hg)) <| SeqN.go ?_
    replace h := Option.some.inj h
    replace h := hr1 _ h.symm
    refine RetE.plain ?_
    exact And.intro rfl (And.intro (congrArg (fun r : Bool => AV.bool r) h) rfl)

theorem slices_IndexFunc__api_Route_api_Route_ok (E : Pm.Env) [LaidE E] (a0 : (List S_Route)) (a1 : FuncId) (a1c : List AV) (a1i : S_Route → Option Bool) (a1h : ∀ (x0 : S_Route) (r : Bool), a1i x0 = some r → FnR E Tryz.prog a1 ([S_Route.av x0] ++ a1c) (AV.bool r) false) (a1p : a1c.all AV.puB = true) (r : Int) (h : slices_IndexFunc__api_Route_api_Route a0 a1i = some r) : FnR E Tryz.prog 158 [AV.list 3 (a0.map S_Route.av), AV.fn a1 [] a1c] (AV.int .i64 r) false := by
  refine FnR.of_ev (T := T) (rows := []) tOk mixed Tryz.func158 rfl (by kernel_rfl) (by kernel_rfl) rfl fun hwf => ?_
  unfold slices_IndexFunc__api_Route_api_Route at h
  refine SeqJ.go <| SeqN.go <| SeqJ.go <| SeqJ.go <| NormE.to (AV.int .i64 (a0.length : Int)) (fun _ => len_list S_Route.av a0) <| SeqN.go ?_
  refine LoopE.img (fun x : Int => St.of [⟨0, AV.list 3 (a0.map S_Route.av), none⟩, ⟨1, AV.fn a1 [] a1c, none⟩, ⟨7, AV.int .i64 (a0.length : Int), none⟩, ⟨8, AV.int .i64 x, none⟩] [] []) (slices_IndexFunc__api_Route_api_Route_b1 a0 a1i) (0 : Int) h ?_ ?_
  · refine Gho.to _ _ _ [] ?_ ?_ ?_ rfl rfl ?_
    · exact trivial
    · exact rfl
    · exact rfl
    · exact ⟨rfl, rfl, trivial, rfl, (noB_fn a1p _), trivial, rfl, rfl, trivial, rfl, rfl, trivial, trivial⟩
  intro n1 x y1 h hl1 hr1
  revert h; revert x; intro s1 h
  unfold slices_IndexFunc__api_Route_api_Route_b1 at h
  refine SeqJ.go <| SeqN.go <| SeqJ.go ?_
  refine Br.mk (fun ht => ?_) (fun ht => ?_)
  · replace h := cond_tt h ht
    refine SeqN.go <| SeqJ.go <| SeqJ.go <| SeqN.go <| SeqJ.go <| bind_elim h fun x2 hx2 h => ?_
    refine And.intro rfl (Exists.intro (S_Route.av x2) (And.intro (fun hg => idx_map _ hx2) ?_))
    refine And.intro (Nat.le_of_ble_eq_true rfl) <| NormE.to (S_Route.av x2) (fun _ => rfl) <| bind_elim h fun x3 hx3 h => CallH.data _ false (puD_app rfl (puD_of a1p)) (a1h x2 x3 hx3) <| SeqN.go ?_
    refine Br.mk (fun ht => ?_) (fun ht => ?_)
    · replace h := cond_tt h ht
      refine SeqJ.go <| SeqN.go ?_
      replace h := Option.some.inj h
      replace h := hr1 _ h.symm
      refine RetE.plain ?_
      exact And.intro rfl (And.intro (congrArg (fun r : Int => AV.int .i64 r) h) rfl)
    · replace h := cond_ff h ht
      refine SeqN.go ?_
      replace h := Option.some.inj h
      refine Exists.intro ⟨(n1, (IntKind.i64.wrap (s1 + (1 : Int)))), hl1 _ h.symm⟩ (And.intro (Nat.lt_succ_self _) ?_)
      refine Gho.to _ _ _ [] ?_ ?_ ?_ rfl rfl ?_
      · exact trivial
      · exact rfl
      · exact rfl
      · exact ⟨rfl, rfl, trivial, rfl, (noB_fn a1p _), trivial, rfl, rfl, trivial, rfl, rfl, trivial, trivial⟩
  · replace h := cond_ff h ht
    refine SeqN.go <| SeqJ.go <| SeqN.go ?_
    replace h := Option.some.inj h
    replace h := hr1 _ h.symm
    refine RetE.plain ?_
    exact And.intro rfl (And.intro (congrArg (fun r : Int => AV.int .i64 r) h) rfl)

theorem slices_ContainsFunc__api_Route_api_Route_ok (E : Pm.Env) [LaidE E] (a0 : (List S_Route)) (a1 : FuncId) (a1c : List AV) (a1i : S_Route → Option Bool) (a1h : ∀ (x0 : S_Route) (r : Bool), a1i x0 = some r → FnR E Tryz.prog a1 ([S_Route.av x0] ++ a1c) (AV.bool r) false) (a1p : a1c.all AV.puB = true) (r : Bool) (h : slices_ContainsFunc__api_Route_api_Route a0 a1i = some r) : FnR E Tryz.prog 109 [AV.list 3 (a0.map S_Route.av), AV.fn a1 [] a1c] (AV.bool r) false := by
  refine FnR.of_ev (T := T) (rows := []) tOk mixed Tryz.func109 rfl (by kernel_rfl) (by kernel_rfl) rfl fun hwf => ?_
  unfold slices_ContainsFunc__api_Route_api_Route at h
  refine SeqJ.go <| SeqN.go <| SeqJ.go <| bind_elim h fun x1 hx1 h => CallH.data _ false (and_tt' rfl (and_tt' (puD_fn a1p) rfl)) (slices_IndexFunc__api_Route_api_Route_ok E a0 a1 a1c (a1i) a1h a1p x1 hx1) <| SeqN.go ?_
  replace h := Option.some.inj h
  refine RetE.plain ?_
  exact And.intro rfl (And.intro (congrArg (fun r : Bool => AV.bool r) h) rfl)

theorem script_all_api_Route_1_ok (E : Pm.Env) [LaidE E] (a0 : S_Route) (c0 : FuncId) (c0c : List AV) (c0i : S_Route → Option Bool) (c0h : ∀ (x0 : S_Route) (r : Bool), c0i x0 = some r → FnR E Tryz.prog c0 ([S_Route.av x0] ++ c0c) (AV.bool r) false) (c0p : c0c.all AV.puB = true) (r : Bool) (h : script_all_api_Route_1 a0 c0i = some r) : FnR E Tryz.prog 110 [S_Route.av a0, AV.iptr [AV.fn c0 [] c0c]] (AV.bool r) false := by
  refine FnR.of_ev (T := T) (rows := []) tOk mixed Tryz.func110 rfl (by kernel_rfl) (by kernel_rfl) rfl fun hwf => ?_
  unfold script_all_api_Route_1 at h
  refine SeqJ.go <| And.intro rfl <| SeqN.go <| SeqJ.go <| And.intro ⟨Nat.le_of_ble_eq_true rfl, Nat.le_of_ble_eq_true rfl⟩ <| NormE.to (S_Route.av a0) (fun _ => rfl) <| bind_elim h fun x1 hx1 h => CallH.data _ false (puD_app rfl (puD_of c0p)) (c0h a0 x1 hx1) <| SeqN.go ?_
  replace h := Option.some.inj h
  refine RetE.plain ?_
  exact And.intro rfl (And.intro (congrArg (fun r : Bool => AV.bool r) h) rfl)

theorem script_all_api_Route_ok (E : Pm.Env) [LaidE E] (a0 : (List S_Route)) (a1 : FuncId) (a1c : List AV) (a1i : S_Route → Option Bool) (a1h : ∀ (x0 : S_Route) (r : Bool), a1i x0 = some r → FnR E Tryz.prog a1 ([S_Route.av x0] ++ a1c) (AV.bool r) false) (a1p : a1c.all AV.puB = true) (r : Bool) (h : script_all_api_Route a0 a1i = some r) : FnR E Tryz.prog 54 [AV.list 3 (a0.map S_Route.av), AV.fn a1 [] a1c] (AV.bool r) false := by
  refine FnR.of_ev (T := T) (rows := []) tOk mixed Tryz.func54 rfl (by kernel_rfl) (by kernel_rfl) rfl fun hwf => ?_
  unfold script_all_api_Route at h
  refine SeqJ.go <| And.intro rfl ?_
  refine SeqN.via (St.of [⟨0, AV.list 3 (a0.map S_Route.av), none⟩, ⟨3, AV.iptr [AV.fn a1 [] a1c], none⟩] [] []) ?_ ?_
  · refine Gho.trans (Gho.fz [0] [(3, AV.iptr [AV.fn a1 [] a1c])] ⟨Frz.ptrD rfl (and_tt' (puD_fn a1p) rfl) (Nat.le_of_ble_eq_true rfl), trivial⟩) ?_
    refine Gho.to _ _ _ [] ?_ ?_ ?_ rfl rfl ?_
    · exact trivial
    · exact rfl
    · exact rfl
    · exact ⟨rfl, rfl, trivial, rfl, rfl, trivial, trivial⟩
  refine SeqJ.go <| bind_elim h fun x1 hx1 h => CallH.data _ false rfl (slices_ContainsFunc__api_Route_api_Route_ok E a0 110 [AV.iptr [AV.fn a1 [] a1c]] (fun x0 => script_all_api_Route_1 x0 (a1i)) (fun x0 r h => script_all_api_Route_1_ok E x0 a1 a1c (a1i) a1h a1p r h) rfl x1 hx1) <| SeqN.go ?_
  replace h := Option.some.inj h
  refine RetE.plain ?_
  exact And.intro rfl (And.intro (congrArg (fun r : Bool => AV.bool r) h) rfl)

theorem script_Right_1_ok (E : Pm.Env) [LaidE E] (a0 : S_Route) (r : Bool) (h : script_Right_1 a0 = some r) : FnR E Tryz.prog 53 [S_Route.av a0] (AV.bool r) false := by
  refine FnR.of_ev (T := T) (rows := []) tOk mixed Tryz.func53 rfl (by kernel_rfl) (by kernel_rfl) rfl fun hwf => ?_
  unfold script_Right_1 at h
  refine SeqJ.go <| And.intro rfl <| SeqN.go <| SeqJ.go <| SeqN.go ?_
  replace h := Option.some.inj h
  refine RetE.plain ?_
  exact And.intro rfl (And.intro (congrArg (fun r : Bool => AV.bool r) h) rfl)

theorem slices_IndexFunc__api_Deed_api_Deed_ok (E : Pm.Env) [LaidE E] (a0 : (List S_Deed)) (a1 : FuncId) (a1c : List AV) (a1i : S_Deed → Option Bool) (a1h : ∀ (x0 : S_Deed) (r : Bool), a1i x0 = some r → FnR E Tryz.prog a1 ([S_Deed.av x0] ++ a1c) (AV.bool r) false) (a1p : a1c.all AV.puB = true) (r : Int) (h : slices_IndexFunc__api_Deed_api_Deed a0 a1i = some r) : FnR E Tryz.prog 159 [AV.list 4 (a0.map S_Deed.av), AV.fn a1 [] a1c] (AV.int .i64 r) false := by
  refine FnR.of_ev (T := T) (rows := []) tOk mixed Tryz.func159 rfl (by kernel_rfl) (by kernel_rfl) rfl fun hwf => ?_
  unfold slices_IndexFunc__api_Deed_api_Deed at h
  refine SeqJ.go <| SeqN.go <| SeqJ.go <| SeqJ.go <| NormE.to (AV.int .i64 (a0.length : Int)) (fun _ => len_list S_Deed.av a0) <| SeqN.go ?_
  refine LoopE.img (fun x : Int => St.of [⟨0, AV.list 4 (a0.map S_Deed.av), none⟩, ⟨1, AV.fn a1 [] a1c, none⟩, ⟨7, AV.int .i64 (a0.length : Int), none⟩, ⟨8, AV.int .i64 x, none⟩] [] []) (slices_IndexFunc__api_Deed_api_Deed_b1 a0 a1i) (0 : Int) h ?_ ?_
  · refine Gho.to _ _ _ [] ?_ ?_ ?_ rfl rfl ?_
    · exact trivial
    · exact rfl
    · exact rfl
    · exact ⟨rfl, rfl, trivial, rfl, (noB_fn a1p _), trivial, rfl, rfl, trivial, rfl, rfl, trivial, trivial⟩
  intro n1 x y1 h hl1 hr1
  revert h; revert x; intro s1 h
  unfold slices_IndexFunc__api_Deed_api_Deed_b1 at h
  refine SeqJ.go <| SeqN.go <| SeqJ.go ?_
  refine Br.mk (fun ht => ?_) (fun ht => ?_)
  · replace h := cond_tt h ht
    refine SeqN.go <| SeqJ.go <| SeqJ.go <| SeqN.go <| SeqJ.go <| bind_elim h fun x2 hx2 h => ?_
    refine And.intro rfl (Exists.intro (S_Deed.av x2) (And.intro (fun hg => idx_map _ hx2) ?_))
    refine And.intro (Nat.le_of_ble_eq_true rfl) <| NormE.to (S_Deed.av x2) (fun _ => rfl) <| bind_elim h fun x3 hx3 h => CallH.data _ false (puD_app rfl (puD_of a1p)) (a1h x2 x3 hx3) <| SeqN.go ?_
    refine Br.mk (fun ht => ?_) (fun ht => ?_)
    · replace h := cond_tt h ht
      refine SeqJ.go <| SeqN.go ?_
      replace h := Option.some.inj h
      replace h := hr1 _ h.symm
      refine RetE.plain ?_
      exact And.intro rfl (And.intro (congrArg (fun r : Int => AV.int .i64 r) h) rfl)
    · replace h := cond_ff h ht
      refine SeqN.go ?_
      replace h := Option.some.inj h
      refine Exists.intro ⟨(n1, (IntKind.i64.wrap (s1 + (1 : Int)))), hl1 _ h.symm⟩ (And.intro (Nat.lt_succ_self _) ?_)
      refine Gho.to _ _ _ [] ?_ ?_ ?_ rfl rfl ?_
      · exact trivial
      · exact rfl
      · exact rfl
      · exact ⟨rfl, rfl, trivial, rfl, (noB_fn a1p _), trivial, rfl, rfl, trivial, rfl, rfl, trivial, trivial⟩
  · replace h := cond_ff h ht
    refine SeqN.go <| SeqJ.go <| SeqN.go ?_
    replace h := Option.some.inj h
    replace h := hr1 _ h.symm
    refine RetE.plain ?_
    exact And.intro rfl (And.intro (congrArg (fun r : Int => AV.int .i64 r) h) rfl)

theorem slices_ContainsFunc__api_Deed_api_Deed_ok (E : Pm.Env) [LaidE E] (a0 : (List S_Deed)) (a1 : FuncId) (a1c : List AV) (a1i : S_Deed → Option Bool) (a1h : ∀ (x0 : S_Deed) (r : Bool), a1i x0 = some r → FnR E Tryz.prog a1 ([S_Deed.av x0] ++ a1c) (AV.bool r) false) (a1p : a1c.all AV.puB = true) (r : Bool) (h : slices_ContainsFunc__api_Deed_api_Deed a0 a1i = some r) : FnR E Tryz.prog 111 [AV.list 4 (a0.map S_Deed.av), AV.fn a1 [] a1c] (AV.bool r) false := by
  refine FnR.of_ev (T := T) (rows := []) tOk mixed Tryz.func111 rfl (by kernel_rfl) (by kernel_rfl) rfl fun hwf => ?_
  unfold slices_ContainsFunc__api_Deed_api_Deed at h
  refine SeqJ.go <| SeqN.go <| SeqJ.go <| bind_elim h fun x1 hx1 h => CallH.data _ false (and_tt' rfl (and_tt' (puD_fn a1p) rfl)) (slices_IndexFunc__api_Deed_api_Deed_ok E a0 a1 a1c (a1i) a1h a1p x1 hx1) <| SeqN.go ?_
  replace h := Option.some.inj h
  refine RetE.plain ?_
  exact And.intro rfl (And.intro (congrArg (fun r : Bool => AV.bool r) h) rfl)

theorem script_all_api_Deed_1_ok (E : Pm.Env) [LaidE E] (a0 : S_Deed) (c0 : FuncId) (c0c : List AV) (c0i : S_Deed → Option Bool) (c0h : ∀ (x0 : S_Deed) (r : Bool), c0i x0 = some r → FnR E Tryz.prog c0 ([S_Deed.av x0] ++ c0c) (AV.bool r) false) (c0p : c0c.all AV.puB = true) (r : Bool) (h : script_all_api_Deed_1 a0 c0i = some r) : FnR E Tryz.prog 112 [S_Deed.av a0, AV.iptr [AV.fn c0 [] c0c]] (AV.bool r) false := by
  refine FnR.of_ev (T := T) (rows := []) tOk mixed Tryz.func112 rfl (by kernel_rfl) (by kernel_rfl) rfl fun hwf => ?_
  unfold script_all_api_Deed_1 at h
  refine SeqJ.go <| And.intro rfl <| SeqN.go <| SeqJ.go <| And.intro ⟨Nat.le_of_ble_eq_true rfl, Nat.le_of_ble_eq_true rfl⟩ <| NormE.to (S_Deed.av a0) (fun _ => rfl) <| bind_elim h fun x1 hx1 h => CallH.data _ false (puD_app rfl (puD_of c0p)) (c0h a0 x1 hx1) <| SeqN.go ?_
  replace h := Option.some.inj h
  refine RetE.plain ?_
  exact And.intro rfl (And.intro (congrArg (fun r : Bool => AV.bool r) h) rfl)

theorem script_all_api_Deed_ok (E : Pm.Env) [LaidE E] (a0 : (List S_Deed)) (a1 : FuncId) (a1c : List AV) (a1i : S_Deed → Option Bool) (a1h : ∀ (x0 : S_Deed) (r : Bool), a1i x0 = some r → FnR E Tryz.prog a1 ([S_Deed.av x0] ++ a1c) (AV.bool r) false) (a1p : a1c.all AV.puB = true) (r : Bool) (h : script_all_api_Deed a0 a1i = some r) : FnR E Tryz.prog 55 [AV.list 4 (a0.map S_Deed.av), AV.fn a1 [] a1c] (AV.bool r) false := by
  refine FnR.of_ev (T := T) (rows := []) tOk mixed Tryz.func55 rfl (by kernel_rfl) (by kernel_rfl) rfl fun hwf => ?_
  unfold script_all_api_Deed at h
  refine SeqJ.go <| And.intro rfl ?_
  refine SeqN.via (St.of [⟨0, AV.list 4 (a0.map S_Deed.av), none⟩, ⟨3, AV.iptr [AV.fn a1 [] a1c], none⟩] [] []) ?_ ?_
  · refine Gho.trans (Gho.fz [0] [(3, AV.iptr [AV.fn a1 [] a1c])] ⟨Frz.ptrD rfl (and_tt' (puD_fn a1p) rfl) (Nat.le_of_ble_eq_true rfl), trivial⟩) ?_
    refine Gho.to _ _ _ [] ?_ ?_ ?_ rfl rfl ?_
    · exact trivial
    · exact rfl
    · exact rfl
    · exact ⟨rfl, rfl, trivial, rfl, rfl, trivial, trivial⟩
  refine SeqJ.go <| bind_elim h fun x1 hx1 h => CallH.data _ false rfl (slices_ContainsFunc__api_Deed_api_Deed_ok E a0 112 [AV.iptr [AV.fn a1 [] a1c]] (fun x0 => script_all_api_Deed_1 x0 (a1i)) (fun x0 r h => script_all_api_Deed_1_ok E x0 a1 a1c (a1i) a1h a1p r h) rfl x1 hx1) <| SeqN.go ?_
  replace h := Option.some.inj h
  refine RetE.plain ?_
  exact And.intro rfl (And.intro (congrArg (fun r : Bool => AV.bool r) h) rfl)

theorem script_right_ok (E : Pm.Env) [LaidE E] (a0 : S_Deed) (r : Bool) (h : script_right a0 = some r) : FnR E Tryz.prog 52 [S_Deed.av a0] (AV.bool r) false := by
  refine FnR.of_ev (T := T) (rows := []) tOk mixed Tryz.func52 rfl (by kernel_rfl) (by kernel_rfl) rfl fun hwf => ?_
  unfold script_right at h
  refine SeqJ.go <| And.intro rfl <| SeqN.go <| SeqJ.go <| And.intro (fun hg => hg) <| And.intro (fun hg => hg) <| And.intro (fun hg => (and_r hg)) <| And.intro (fun hg => hg) <| And.intro (fun hg => hg) <| And.intro (fun hg => (and_r hg)) ?_
  refine SeqN.via (St.of [⟨1, AV.ptr 0 0, none⟩, ⟨3, AV.bool (bif (bif ((a0.Kind) == (2 : Int)) then true else ((a0.Kind) == (4 : Int))) then true else ((a0.Kind) == (5 : Int))), none⟩] [.cells 94 (S_Deed.cells a0) []] []) ?_ ?_
  · refine Gho.to _ _ _ [] ?_ ?_ ?_ rfl rfl ?_
    · exact ⟨⟨rfl, rfl, rfl⟩, trivial⟩
    · exact rfl
    · exact rfl
    · exact ⟨rfl, rfl, trivial, rfl, rfl, trivial, trivial⟩
  refine SeqJ.go <| And.intro (fun hg => hg) <| And.intro (fun hg => hg) <| And.intro (fun hg => (and_r hg)) <| SeqN.go <| SeqJ.go <| And.intro (fun hg => hg) <| And.intro (fun hg => hg) <| And.intro (fun hg => (and_r hg)) <| And.intro (fun hg => hg) <| And.intro (fun hg => hg) <| And.intro (fun hg => (and_r hg)) <| And.intro (fun hg => hg) <| And.intro (fun hg => hg) <| And.intro (fun hg => (and_r hg)) <| And.intro (fun hg => hg) <| And.intro (fun hg => hg) <| And.intro (fun hg => hg) <| And.intro (fun hg => hg) <| And.intro (fun hg => hg) <| And.intro (fun hg => (and_r hg)) <| And.intro (fun hg => hg) <| And.intro (fun hg => hg) <| NormE.same <| And.intro (fun hg => hg) <| And.intro (fun hg => (and_r hg)) <| And.intro (fun hg => hg) <| And.intro (fun hg => hg) <| And.intro (fun hg => hg) <| And.intro (fun hg => hg) <| And.intro (fun hg => hg) <| And.intro (fun hg => (and_r hg)) <| And.intro (fun hg => hg) <| And.intro (fun hg => hg) <| And.intro (fun hg => hg) <| And.intro (fun hg => hg) <| And.intro (fun hg => hg) <| And.intro (fun hg => hg) <| And.intro (fun hg => hg) <| And.intro (fun hg => (and_r hg)) ?_
  refine SeqN.via (St.of [⟨2, AV.bool (bif (bif (bif (bif (bif (bif (bif (decide ((a0.Kind) ≥ (1 : Int))) then (decide ((a0.Kind) ≤ (6 : Int))) else false) then (decide ((a0.At) ≥ (0 : Int))) else false) then (decide ((a0.At) ≤ (100000 : Int))) else false) then (bif (bif (bif ((a0.Kind) == (2 : Int)) then true else ((a0.Kind) == (4 : Int))) then true else ((a0.Kind) == (5 : Int))) then true else ((a0.At) == (0 : Int))) else false) then (decide (((a0.Bytes).length : Int) ≤ (3000 : Int))) else false) then (bif (bif ((a0.Kind) == (1 : Int)) then true else ((a0.Kind) == (4 : Int))) then true else (a0.Bytes == ([] : Bytes))) else false) then (bif ((a0.Kind) == (5 : Int)) then true else (!(a0.Clean))) else false), none⟩] [] []) ?_ ?_
  · refine Gho.to _ _ _ [] ?_ ?_ ?_ rfl rfl ?_
    · exact trivial
    · exact rfl
    · exact rfl
    · exact ⟨rfl, rfl, trivial, trivial⟩
  replace h := Option.some.inj h
  refine RetE.plain ?_
  exact And.intro rfl (And.intro (congrArg (fun r : Bool => AV.bool r) h) rfl)

theorem script_Right_ok (E : Pm.Env) [LaidE E] (a0 : S_Plan) (r : Bool) (h : script_Right a0 = some r) : FnR E Tryz.prog 18 [S_Plan.av a0] (AV.bool r) false := by
  refine FnR.of_ev (T := T) (rows := []) tOk mixed Tryz.func18 rfl (by kernel_rfl) (by kernel_rfl) rfl fun hwf => ?_
  unfold script_Right at h
  refine SeqJ.go <| And.intro rfl <| SeqN.go <| SeqJ.go <| SeqN.go <| SeqJ.go <| bind_elim h fun x1 hx1 h => CallH.data _ false rfl (script_device_ok E (a0.Device) x1 hx1) <| And.intro (fun hg => hg) <| bind_elim h fun x2 hx2 h => And.intro (fun hg => hg) <| And.intro rfl ?_
  refine CallF.mk _ false (fun hg => route_Right_ok E (a0.Routes) x2 (gcall_some hx2 hg)) (And.intro rfl ?_)
  refine And.intro (fun hg => (and_r hg)) <| And.intro (fun hg => hg) <| bind_elim h fun x3 hx3 h => And.intro (fun hg => hg) <| And.intro (fun hg => hg) <| And.intro rfl ?_
  refine CallF.mk _ false (fun hg => script_all_api_Route_ok E (a0.Routes) 53 [] (fun x0 => script_Right_1 x0) (fun x0 r h => script_Right_1_ok E x0 r h) rfl x3 (gcall_some hx3 hg)) (And.intro rfl ?_)
  refine And.intro (fun hg => (and_r hg)) <| And.intro (fun hg => hg) <| And.intro (fun hg => hg) <| NormE.to (AV.int .i64 ((a0.Deeds).length : Int)) (fun _ => len_list S_Deed.av (a0.Deeds)) <| And.intro (fun hg => hg) <| And.intro (fun hg => (and_r hg)) <| And.intro (fun hg => hg) <| bind_elim h fun x4 hx4 h => And.intro (fun hg => hg) <| And.intro rfl ?_
  refine CallF.mk _ false (fun hg => script_all_api_Deed_ok E (a0.Deeds) 52 [] (fun x0 => script_right x0) (fun x0 r h => script_right_ok E x0 r h) rfl x4 (gcall_some hx4 hg)) (And.intro rfl ?_)
  refine And.intro (fun hg => (and_r hg)) ?_
  refine SeqN.via (St.of [⟨2, AV.bool (bif (bif (bif (bif x1 then x2 else false) then x3 else false) then (decide (((a0.Deeds).length : Int) ≤ (200 : Int))) else false) then x4 else false), none⟩] [] []) ?_ ?_
  · refine Gho.to _ _ _ [] ?_ ?_ ?_ rfl rfl ?_
    · exact trivial
    · exact rfl
    · exact rfl
    · exact ⟨rfl, rfl, trivial, trivial⟩
  replace h := Option.some.inj h
  refine RetE.plain ?_
  exact And.intro rfl (And.intro (congrArg (fun r : Bool => AV.bool r) h) rfl)

theorem script_word_ok (E : Pm.Env) [LaidE E] (a0 : Bytes) (r : Bytes) (h : script_word a0 = some r) : FnR E Tryz.prog 94 [AV.str a0] (AV.str r) false := by
  refine FnR.of_ev (T := T) (rows := []) tOk mixed Tryz.func94 rfl (by kernel_rfl) (by kernel_rfl) rfl fun hwf => ?_
  unfold script_word at h
  refine SeqJ.go <| SeqN.go <| SeqJ.go <| SeqJ.go <| SeqN.go ?_
  refine Br.mk (fun ht => ?_) (fun ht => ?_)
  · replace h := cond_tt h ht
    refine SeqJ.go <| SeqN.go ?_
    replace h := Option.some.inj h
    refine RetE.plain ?_
    exact And.intro rfl (And.intro (congrArg (fun r : Bytes => AV.str r) h) rfl)
  · replace h := cond_ff h ht
    refine SeqN.go <| SeqJ.go <| SeqN.go ?_
    replace h := Option.some.inj h
    refine RetE.plain ?_
    exact And.intro rfl (And.intro (congrArg (fun r : Bytes => AV.str r) h) rfl)

theorem script_way_ok (E : Pm.Env) [LaidE E] (a0 : S_Route) (r : Bytes) (h : script_way a0 = some r) : FnR E Tryz.prog 44 [S_Route.av a0] (AV.str r) false := by
  refine FnR.of_ev (T := T) (rows := []) tOk mixed Tryz.func44 rfl (by kernel_rfl) (by kernel_rfl) rfl fun hwf => ?_
  unfold script_way at h
  refine SeqJ.go <| And.intro rfl <| SeqN.go <| SeqJ.go <| bind_elim h fun x1 hx1 h => CallH.data _ false rfl (script_word_ok E (a0.Host) x1 hx1) <| And.intro ⟨rfl, rfl, rfl, rfl⟩ <| And.intro ⟨rfl, rfl, rfl, rfl⟩ <| And.intro ⟨rfl, rfl, rfl, rfl⟩ <| And.intro ⟨rfl, rfl, rfl, rfl⟩ <| And.intro ⟨rfl, rfl, rfl⟩ <| NormE.to (AV.list 1 (([([114, 111, 117, 116, 101] : Bytes), x1, (a0.Prefix), (a0.Origin)] : List Bytes).map AV.str)) (fun _ => rfl) <| bind_elim h fun x2 hx2 h => CallH.data _ false rfl (strings_Join_ok E ([([114, 111, 117, 116, 101] : Bytes), x1, (a0.Prefix), (a0.Origin)] : List Bytes) ([32] : Bytes) x2 hx2) <| And.intro (by kernel_rfl) <| SeqN.go ?_
  replace h := Option.some.inj h
  refine RetE.plain ?_
  exact And.intro rfl (And.intro (congrArg (fun r : Bytes => AV.str r) h) rfl)

theorem script_words_ok (E : Pm.Env) [LaidE E] (r : (List Bytes)) (h : script_words = some r) : FnR E Tryz.prog 95 [] (AV.list 1 (r.map AV.str)) true := by
  refine FnR.of_ev (T := T) (rows := []) tOk mixed Tryz.func95 rfl (by kernel_rfl) (by kernel_rfl) rfl fun hwf => ?_
  unfold script_words at h
  refine SeqJ.go <| SeqN.go <| SeqJ.go <| And.intro ⟨rfl, rfl, rfl, rfl⟩ <| And.intro ⟨rfl, rfl, rfl, rfl⟩ <| And.intro ⟨rfl, rfl, rfl, rfl⟩ <| And.intro ⟨rfl, rfl, rfl, rfl⟩ <| And.intro ⟨rfl, rfl, rfl, rfl⟩ <| And.intro ⟨rfl, rfl, rfl, rfl⟩ <| And.intro ⟨rfl, rfl, rfl⟩ <| NormE.to (AV.list 1 (([([105, 110] : Bytes), ([119, 114, 105, 116, 101] : Bytes), ([108, 101, 102, 116] : Bytes), ([99, 97, 109, 101] : Bytes), ([103, 111, 110, 101] : Bytes), ([116, 105, 99, 107] : Bytes)] : List Bytes).map AV.str)) (fun _ => rfl) <| SeqN.go ?_
  replace h := Option.some.inj h
  exact RetE.own 0 1 rfl rfl rfl rfl (And.intro (congrArg (fun r : (List Bytes) => AV.list 1 (r.map AV.str)) h) rfl)

theorem script_hexed_ok (E : Pm.Env) [LaidE E] (a0 : Bytes) (r : Bytes) (h : script_hexed a0 = some r) : FnR E Tryz.prog 145 [AV.str a0] (AV.str r) false := by
  refine FnR.of_ev (T := T) (rows := []) tOk mixed Tryz.func145 rfl (by kernel_rfl) (by kernel_rfl) rfl fun hwf => ?_
  unfold script_hexed at h
  refine SeqJ.go <| SeqN.go <| SeqJ.go <| SeqN.go <| bind_elim h fun j1 hj1 h => ?_
  refine SeqJ.join (St.of [⟨3, AV.list 1 (j1.map byteAV), some 0⟩] [] [1]) ?_ ?_
  · clear h; have h := hj1; clear hj1
    refine SeqJ.go <| NormE.same <| SeqN.go ?_
    refine LoopE.img (fun x : ((List UInt8) × Int) => St.of [⟨0, AV.str a0, none⟩, ⟨3, AV.list 1 ((x.1).map byteAV), some 0⟩, ⟨6, AV.int .i64 (a0.length : Int), none⟩, ⟨7, AV.int .i64 (x.2), none⟩] [] [1]) (script_hexed_b1 a0) (([] : List UInt8), (0 : Int)) h ?_ ?_
    · refine Gho.to _ _ _ [0] ?_ ?_ ?_ rfl rfl ?_
      · exact trivial
      · exact rfl
      · exact rfl
      · exact ⟨rfl, rfl, trivial, rfl, rfl, ⟨rfl, rfl⟩, rfl, rfl, trivial, rfl, rfl, trivial, trivial⟩
    intro n1 x y1 h hl1 hr1
    obtain ⟨s2, s3⟩ := x
    unfold script_hexed_b1 at h
    dsimp only at h
    refine SeqJ.go <| SeqN.go <| SeqJ.go ?_
    refine Br.mk (fun ht => ?_) (fun ht => ?_)
    · replace h := cond_tt h ht
      refine SeqN.go <| SeqJ.go <| SeqJ.go <| SeqN.go <| bind_elim h fun x4 hx4 h => ?_
      refine Exists.intro x4 (And.intro (fun hg => idx_some hx4) ?_)
      refine chk_elim h fun q5 h => And.intro (fun _ => q5) <| bind_elim h fun x6 hx6 h => ?_
      refine Exists.intro x6 (And.intro (fun hg => idx_some hx6) ?_)
      refine bind_elim h fun x7 hx7 h => ?_
      refine Exists.intro x7 (And.intro (fun hg => idx_some hx7) ?_)
      refine bind_elim h fun x8 hx8 h => ?_
      refine Exists.intro x8 (And.intro (fun hg => idx_some hx8) ?_)
      refine And.intro ⟨rfl, rfl, rfl, rfl⟩ <| And.intro ⟨rfl, rfl, rfl, rfl⟩ <| And.intro ⟨rfl, rfl, rfl⟩ <| NormE.to (AV.list 1 (([u8 (x6.toNat : Int), u8 (x8.toNat : Int)] : List UInt8).map byteAV)) (fun hw => bytes2 hw) <| bind_elim h fun x9 hx9 h => ?_
      have qx9 := (app_some hx9).1
      have hx9e := (app_some hx9).2
      refine And.intro ⟨rfl, rfl, rfl⟩ <| And.intro rfl <| And.intro (app_cond byteAV qx9) <| NormE.to (AV.list 1 (x9.map byteAV)) (fun _ => (app_list 1 byteAV _ _).trans (congrArg (fun y => AV.list 1 (List.map byteAV y)) hx9e.symm)) <| And.intro (by kernel_rfl) ?_
      refine SeqN.via (St.of [⟨0, AV.str a0, none⟩, ⟨3, AV.list 1 (x9.map byteAV), some 0⟩, ⟨6, AV.int .i64 (a0.length : Int), none⟩, ⟨7, AV.int .i64 s3, none⟩] [] [1]) ?_ ?_
      · refine Gho.to _ _ _ [2] ?_ ?_ ?_ rfl rfl ?_
        · exact trivial
        · exact rfl
        · exact rfl
        · exact ⟨rfl, rfl, trivial, rfl, rfl, ⟨rfl, rfl⟩, rfl, rfl, trivial, rfl, rfl, trivial, trivial⟩
      replace h := Option.some.inj h
      refine Exists.intro ⟨(n1, (x9, (IntKind.i64.wrap (s3 + (1 : Int))))), hl1 _ h.symm⟩ (And.intro (Nat.lt_succ_self _) ?_)
      refine Gho.to _ _ _ [0] ?_ ?_ ?_ rfl rfl ?_
      · exact trivial
      · exact rfl
      · exact rfl
      · exact ⟨rfl, rfl, trivial, rfl, rfl, ⟨rfl, rfl⟩, rfl, rfl, trivial, rfl, rfl, trivial, trivial⟩
    · replace h := cond_ff h ht
      replace h := Option.some.inj h
      replace h := hr1 _ h.symm
      subst h
      refine Gho.to _ _ _ [0] ?_ ?_ ?_ rfl rfl ?_
      · exact trivial
      · exact rfl
      · exact rfl
      · exact ⟨rfl, rfl, ⟨rfl, rfl⟩, trivial⟩
  · clear hj1
    refine SeqJ.go ?_
    refine And.intro rfl (And.intro rfl (Exists.intro j1 (And.intro rfl ?_)))
    refine SeqN.go ?_
    replace h := Option.some.inj h
    refine RetE.plain ?_
    exact And.intro rfl (And.intro (congrArg (fun r : Bytes => AV.str r) h) rfl)

theorem script_bytes_ok (E : Pm.Env) [LaidE E] (a0 : Bytes) (r : Bytes) (h : script_bytes a0 = some r) : FnR E Tryz.prog 97 [AV.str a0] (AV.str r) false := by
  refine FnR.of_ev (T := T) (rows := []) tOk mixed Tryz.func97 rfl (by kernel_rfl) (by kernel_rfl) rfl fun hwf => ?_
  unfold script_bytes at h
  refine SeqJ.go <| SeqN.go <| SeqJ.go <| bind_elim h fun x1 hx1 h => CallH.data _ false rfl (script_hexed_ok E a0 x1 hx1) <| bind_elim h fun x2 hx2 h => CallH.data _ false rfl (script_word_ok E x1 x2 hx2) <| SeqN.go ?_
  replace h := Option.some.inj h
  refine RetE.plain ?_
  exact And.intro rfl (And.intro (congrArg (fun r : Bytes => AV.str r) h) rfl)

theorem script_line_ok (E : Pm.Env) [LaidE E] (a0 : S_Deed) (r : Bytes) (h : script_line a0 = some r) : FnR E Tryz.prog 45 [S_Deed.av a0] (AV.str r) false := by
  refine FnR.of_ev (T := T) (rows := []) tOk mixed Tryz.func45 rfl (by kernel_rfl) (by kernel_rfl) rfl fun hwf => ?_
  unfold script_line at h
  refine SeqJ.go <| And.intro rfl <| SeqN.go <| SeqJ.go <| bind_elim h fun x1 hx1 h => CallH.data _ true rfl (script_words_ok E  x1 hx1) <| bind_elim h fun x2 hx2 h => ?_
  refine And.intro rfl (Exists.intro (AV.str x2) (And.intro (fun hg => idx_map _ hx2) ?_))
  refine And.intro ⟨rfl, rfl, rfl, rfl⟩ <| And.intro ⟨rfl, rfl, rfl⟩ <| NormE.to (AV.list 1 (([x2] : List Bytes).map AV.str)) (fun _ => rfl) <| And.intro (by kernel_rfl) <| SeqN.go <| SeqJ.go <| SeqJ.go <| And.intro (fun hg => hg) <| And.intro (fun hg => hg) <| And.intro (fun hg => (and_r hg)) <| And.intro (fun hg => hg) <| And.intro (fun hg => hg) <| And.intro (fun hg => (and_r hg)) ?_
  refine SeqN.via (St.of [⟨1, AV.ptr 0 0, none⟩, ⟨3, AV.list 1 (([x2] : List Bytes).map AV.str), some 0⟩, ⟨23, AV.bool (bif (bif ((a0.Kind) == (2 : Int)) then true else ((a0.Kind) == (4 : Int))) then true else ((a0.Kind) == (5 : Int))), none⟩] [.cells 94 (S_Deed.cells a0) []] [2]) ?_ ?_
  · refine Gho.to _ _ _ [1] ?_ ?_ ?_ rfl rfl ?_
    · exact ⟨⟨rfl, rfl, rfl⟩, trivial⟩
    · exact rfl
    · exact rfl
    · exact ⟨rfl, rfl, trivial, rfl, rfl, ⟨rfl, rfl⟩, rfl, rfl, trivial, trivial⟩
  refine Br.mk (fun ht => ?_) (fun ht => ?_)
  · replace h := cond_tt h ht
    refine bind_elim h fun x3 hx3 h => CallH.data _ false rfl (number_Dec_ok E (IntKind.u64.wrap (a0.At)) x3 hx3) <| And.intro ⟨rfl, rfl, rfl, rfl⟩ <| And.intro ⟨rfl, rfl, rfl⟩ <| NormE.to (AV.list 1 (([x3] : List Bytes).map AV.str)) (fun _ => rfl) <| bind_elim h fun x4 hx4 h => ?_
    have qx4 := (app_some hx4).1
    have hx4e := (app_some hx4).2
    refine And.intro ⟨rfl, rfl, rfl⟩ <| And.intro rfl <| And.intro (app_cond AV.str qx4) <| NormE.to (AV.list 1 (x4.map AV.str)) (fun _ => (app_list 1 AV.str _ _).trans (congrArg (fun y => AV.list 1 (List.map AV.str y)) hx4e.symm)) <| SeqN.go <| SeqJ.go <| SeqJ.go <| And.intro (fun hg => hg) <| And.intro (fun hg => hg) <| And.intro (fun hg => (and_r hg)) ?_
    refine SeqN.via (St.of [⟨1, AV.ptr 0 0, none⟩, ⟨3, AV.list 1 (x4.map AV.str), some 0⟩, ⟨31, AV.bool (bif ((a0.Kind) == (1 : Int)) then true else ((a0.Kind) == (4 : Int))), none⟩] [.cells 94 (S_Deed.cells a0) []] [1]) ?_ ?_
    · refine Gho.to _ _ _ [2] ?_ ?_ ?_ rfl rfl ?_
      · exact ⟨⟨rfl, rfl, rfl⟩, trivial⟩
      · exact rfl
      · exact rfl
      · exact ⟨rfl, rfl, trivial, rfl, rfl, ⟨rfl, rfl⟩, rfl, rfl, trivial, trivial⟩
    refine Br.mk (fun ht => ?_) (fun ht => ?_)
    · replace h := cond_tt h ht
      refine bind_elim h fun x5 hx5 h => CallH.data _ false rfl (script_bytes_ok E (a0.Bytes) x5 hx5) <| And.intro ⟨rfl, rfl, rfl, rfl⟩ <| And.intro ⟨rfl, rfl, rfl⟩ <| NormE.to (AV.list 1 (([x5] : List Bytes).map AV.str)) (fun _ => rfl) <| bind_elim h fun x6 hx6 h => ?_
      have qx6 := (app_some hx6).1
      have hx6e := (app_some hx6).2
      refine And.intro ⟨rfl, rfl, rfl⟩ <| And.intro rfl <| And.intro (app_cond AV.str qx6) <| NormE.to (AV.list 1 (x6.map AV.str)) (fun _ => (app_list 1 AV.str _ _).trans (congrArg (fun y => AV.list 1 (List.map AV.str y)) hx6e.symm)) <| SeqN.go <| SeqJ.go <| bind_elim h fun x7 hx7 h => CallH.data _ false rfl (strings_Join_ok E x6 ([32] : Bytes) x7 hx7) <| SeqN.go ?_
      replace h := Option.some.inj h
      refine RetE.plain ?_
      exact And.intro rfl (And.intro (congrArg (fun r : Bytes => AV.str r) h) rfl)
    · replace h := cond_ff h ht
      refine SeqJ.go <| SeqN.go ?_
      refine Br.mk (fun ht => ?_) (fun ht => ?_)
      · replace h := cond_tt h ht
        refine And.intro ⟨rfl, rfl, rfl, rfl⟩ <| And.intro ⟨rfl, rfl, rfl⟩ <| NormE.to (AV.list 1 (([([99, 108, 101, 97, 110] : Bytes)] : List Bytes).map AV.str)) (fun _ => rfl) <| bind_elim h fun x8 hx8 h => ?_
        have qx8 := (app_some hx8).1
        have hx8e := (app_some hx8).2
        refine And.intro ⟨rfl, rfl, rfl⟩ <| And.intro rfl <| And.intro (app_cond AV.str qx8) <| NormE.to (AV.list 1 (x8.map AV.str)) (fun _ => (app_list 1 AV.str _ _).trans (congrArg (fun y => AV.list 1 (List.map AV.str y)) hx8e.symm)) <| SeqN.go <| SeqJ.go <| bind_elim h fun x9 hx9 h => CallH.data _ false rfl (strings_Join_ok E x8 ([32] : Bytes) x9 hx9) <| SeqN.go ?_
        replace h := Option.some.inj h
        refine RetE.plain ?_
        exact And.intro rfl (And.intro (congrArg (fun r : Bytes => AV.str r) h) rfl)
      · replace h := cond_ff h ht
        refine SeqJ.go <| SeqN.go ?_
        refine Br.mk (fun ht => ?_) (fun ht => ?_)
        · replace h := cond_tt h ht
          refine And.intro ⟨rfl, rfl, rfl, rfl⟩ <| And.intro ⟨rfl, rfl, rfl⟩ <| NormE.to (AV.list 1 (([([116, 111, 114, 110] : Bytes)] : List Bytes).map AV.str)) (fun _ => rfl) <| bind_elim h fun x10 hx10 h => ?_
          have qx10 := (app_some hx10).1
          have hx10e := (app_some hx10).2
          refine And.intro ⟨rfl, rfl, rfl⟩ <| And.intro rfl <| And.intro (app_cond AV.str qx10) <| NormE.to (AV.list 1 (x10.map AV.str)) (fun _ => (app_list 1 AV.str _ _).trans (congrArg (fun y => AV.list 1 (List.map AV.str y)) hx10e.symm)) <| SeqN.go <| SeqJ.go <| bind_elim h fun x11 hx11 h => CallH.data _ false rfl (strings_Join_ok E x10 ([32] : Bytes) x11 hx11) <| SeqN.go ?_
          replace h := Option.some.inj h
          refine RetE.plain ?_
          exact And.intro rfl (And.intro (congrArg (fun r : Bytes => AV.str r) h) rfl)
        · replace h := cond_ff h ht
          refine SeqN.go <| SeqJ.go <| bind_elim h fun x12 hx12 h => CallH.data _ false rfl (strings_Join_ok E x4 ([32] : Bytes) x12 hx12) <| SeqN.go ?_
          replace h := Option.some.inj h
          refine RetE.plain ?_
          exact And.intro rfl (And.intro (congrArg (fun r : Bytes => AV.str r) h) rfl)
  · replace h := cond_ff h ht
    refine SeqN.go <| SeqJ.go <| SeqJ.go <| And.intro (fun hg => hg) <| And.intro (fun hg => hg) <| And.intro (fun hg => (and_r hg)) <| SeqN.go ?_
    refine Br.mk (fun ht => ?_) (fun ht => ?_)
    · replace h := cond_tt h ht
      refine bind_elim h fun x13 hx13 h => CallH.data _ false rfl (script_bytes_ok E (a0.Bytes) x13 hx13) <| And.intro ⟨rfl, rfl, rfl, rfl⟩ <| And.intro ⟨rfl, rfl, rfl⟩ <| NormE.to (AV.list 1 (([x13] : List Bytes).map AV.str)) (fun _ => rfl) <| bind_elim h fun x14 hx14 h => ?_
      have qx14 := (app_some hx14).1
      have hx14e := (app_some hx14).2
      refine And.intro ⟨rfl, rfl, rfl⟩ <| And.intro rfl <| And.intro (app_cond AV.str qx14) <| NormE.to (AV.list 1 (x14.map AV.str)) (fun _ => (app_list 1 AV.str _ _).trans (congrArg (fun y => AV.list 1 (List.map AV.str y)) hx14e.symm)) ?_
      refine SeqN.via (St.of [⟨3, AV.list 1 (x14.map AV.str), some 0⟩] [] [1]) ?_ ?_
      · refine Gho.to _ _ _ [2] ?_ ?_ ?_ rfl rfl ?_
        · exact trivial
        · exact rfl
        · exact rfl
        · exact ⟨rfl, rfl, ⟨rfl, rfl⟩, trivial⟩
      refine SeqJ.go <| bind_elim h fun x15 hx15 h => CallH.data _ false rfl (strings_Join_ok E x14 ([32] : Bytes) x15 hx15) <| SeqN.go ?_
      replace h := Option.some.inj h
      refine RetE.plain ?_
      exact And.intro rfl (And.intro (congrArg (fun r : Bytes => AV.str r) h) rfl)
    · replace h := cond_ff h ht
      refine SeqJ.go <| SeqN.go ?_
      refine Br.mk (fun ht => ?_) (fun ht => ?_)
      · replace h := cond_tt h ht
        refine And.intro ⟨rfl, rfl, rfl, rfl⟩ <| And.intro ⟨rfl, rfl, rfl⟩ <| NormE.to (AV.list 1 (([([99, 108, 101, 97, 110] : Bytes)] : List Bytes).map AV.str)) (fun _ => rfl) <| bind_elim h fun x16 hx16 h => ?_
        have qx16 := (app_some hx16).1
        have hx16e := (app_some hx16).2
        refine And.intro ⟨rfl, rfl, rfl⟩ <| And.intro rfl <| And.intro (app_cond AV.str qx16) <| NormE.to (AV.list 1 (x16.map AV.str)) (fun _ => (app_list 1 AV.str _ _).trans (congrArg (fun y => AV.list 1 (List.map AV.str y)) hx16e.symm)) ?_
        refine SeqN.via (St.of [⟨3, AV.list 1 (x16.map AV.str), some 0⟩] [] [1]) ?_ ?_
        · refine Gho.to _ _ _ [2] ?_ ?_ ?_ rfl rfl ?_
          · exact trivial
          · exact rfl
          · exact rfl
          · exact ⟨rfl, rfl, ⟨rfl, rfl⟩, trivial⟩
        refine SeqJ.go <| bind_elim h fun x17 hx17 h => CallH.data _ false rfl (strings_Join_ok E x16 ([32] : Bytes) x17 hx17) <| SeqN.go ?_
        replace h := Option.some.inj h
        refine RetE.plain ?_
        exact And.intro rfl (And.intro (congrArg (fun r : Bytes => AV.str r) h) rfl)
      · replace h := cond_ff h ht
        refine SeqJ.go ?_
        refine SeqN.via (St.of [⟨3, AV.list 1 (([x2] : List Bytes).map AV.str), some 0⟩, ⟨52, AV.bool ((a0.Kind) == (5 : Int)), none⟩] [] [2]) ?_ ?_
        · refine Gho.to _ _ _ [0] ?_ ?_ ?_ rfl rfl ?_
          · exact trivial
          · exact rfl
          · exact rfl
          · exact ⟨rfl, rfl, ⟨rfl, rfl⟩, rfl, rfl, trivial, trivial⟩
        refine Br.mk (fun ht => ?_) (fun ht => ?_)
        · replace h := cond_tt h ht
          refine And.intro ⟨rfl, rfl, rfl, rfl⟩ <| And.intro ⟨rfl, rfl, rfl⟩ <| NormE.to (AV.list 1 (([([116, 111, 114, 110] : Bytes)] : List Bytes).map AV.str)) (fun _ => rfl) <| bind_elim h fun x18 hx18 h => ?_
          have qx18 := (app_some hx18).1
          have hx18e := (app_some hx18).2
          refine And.intro ⟨rfl, rfl, rfl⟩ <| And.intro rfl <| And.intro (app_cond AV.str qx18) <| NormE.to (AV.list 1 (x18.map AV.str)) (fun _ => (app_list 1 AV.str _ _).trans (congrArg (fun y => AV.list 1 (List.map AV.str y)) hx18e.symm)) <| SeqN.go <| SeqJ.go <| bind_elim h fun x19 hx19 h => CallH.data _ false rfl (strings_Join_ok E x18 ([32] : Bytes) x19 hx19) <| SeqN.go ?_
          replace h := Option.some.inj h
          refine RetE.plain ?_
          exact And.intro rfl (And.intro (congrArg (fun r : Bytes => AV.str r) h) rfl)
        · replace h := cond_ff h ht
          refine SeqN.go <| SeqJ.go <| bind_elim h fun x20 hx20 h => CallH.data _ false rfl (strings_Join_ok E ([x2] : List Bytes) ([32] : Bytes) x20 hx20) <| SeqN.go ?_
          replace h := Option.some.inj h
          refine RetE.plain ?_
          exact And.intro rfl (And.intro (congrArg (fun r : Bytes => AV.str r) h) rfl)

theorem script_Print_ok (E : Pm.Env) [LaidE E] (a0 : S_Plan) (r : (Bytes × Int)) (h : script_Print a0 = some r) : FnR E Tryz.prog 14 [S_Plan.av a0] (AV.tup [AV.str (r.1), AV.int .i64 (r.2)]) false := by
  refine FnR.of_ev (T := T) (rows := []) tOk mixed Tryz.func14 rfl (by kernel_rfl) (by kernel_rfl) rfl fun hwf => ?_
  unfold script_Print at h
  refine SeqJ.go <| And.intro rfl <| SeqN.go <| SeqJ.go <| SeqJ.go <| And.intro ⟨Nat.le_of_ble_eq_true rfl, Nat.le_of_ble_eq_true rfl⟩ <| NormE.to (S_Plan.av a0) (fun _ => rfl) <| bind_elim h fun x1 hx1 h => CallH.data _ false rfl (script_Right_ok E a0 x1 hx1) <| SeqN.go ?_
  refine Br.mk (fun ht => ?_) (fun ht => ?_)
  · replace h := cond_tt h ht
    refine SeqJ.go <| SeqN.go ?_
    replace h := Option.some.inj h
    refine RetE.plain ?_
    exact And.intro rfl (And.intro (congrArg (fun r : (Bytes × Int) => AV.tup [AV.str (r.1), AV.int .i64 (r.2)]) h) rfl)
  · replace h := cond_ff h ht
    refine SeqN.go <| SeqJ.go <| bind_elim h fun x2 hx2 h => ?_
    have hx2c := (cat_some hx2).1
    have hx2e := (cat_some hx2).2
    refine And.intro (fun _ => hx2c) <| NormE.to (AV.str x2) (fun _ => congrArg AV.str hx2e.symm) <| And.intro ⟨rfl, rfl, rfl, rfl⟩ <| And.intro ⟨rfl, rfl, rfl⟩ <| NormE.to (AV.list 1 (([x2] : List Bytes).map AV.str)) (fun _ => rfl) <| SeqN.go <| bind_elim h fun j3 hj3 h => ?_
    refine SeqJ.join (St.of [⟨1, AV.ptr 0 0, none⟩, ⟨4, AV.list 1 (j3.map AV.str), some 0⟩] [.cells 25 (S_Plan.cells a0) []] [1]) ?_ ?_
    · clear h; have h := hj3; clear hj3
      refine SeqJ.go <| NormE.to (AV.int .i64 ((a0.Routes).length : Int)) (fun _ => len_list S_Route.av (a0.Routes)) <| SeqN.go ?_
      refine LoopE.img (fun x : ((List Bytes) × Int) => St.of [⟨1, AV.ptr 0 0, none⟩, ⟨4, AV.list 1 ((x.1).map AV.str), some 0⟩, ⟨17, AV.list 3 ((a0.Routes).map S_Route.av), none⟩, ⟨18, AV.int .i64 ((a0.Routes).length : Int), none⟩, ⟨19, AV.int .i64 (x.2), none⟩] [.cells 25 (S_Plan.cells a0) []] [1]) (script_Print_b1 a0) (([x2] : List Bytes), (0 : Int)) h ?_ ?_
      · refine Gho.to _ _ _ [0] ?_ ?_ ?_ rfl rfl ?_
        · exact ⟨⟨rfl, rfl, rfl⟩, trivial⟩
        · exact rfl
        · exact rfl
        · exact ⟨rfl, rfl, trivial, rfl, rfl, ⟨rfl, rfl⟩, rfl, rfl, trivial, rfl, rfl, trivial, rfl, rfl, trivial, trivial⟩
      intro n1 x y1 h hl1 hr1
      obtain ⟨s4, s5⟩ := x
      unfold script_Print_b1 at h
      dsimp only at h
      refine SeqJ.go <| SeqN.go <| SeqJ.go ?_
      refine Br.mk (fun ht => ?_) (fun ht => ?_)
      · replace h := cond_tt h ht
        refine SeqN.go <| SeqJ.go <| SeqJ.go <| bind_elim h fun x6 hx6 h => ?_
        refine And.intro rfl (Exists.intro (S_Route.av x6) (And.intro (fun hg => idx_map _ hx6) ?_))
        refine And.intro (Nat.le_of_ble_eq_true rfl) <| NormE.to (S_Route.av x6) (fun _ => rfl) <| And.intro rfl ?_
        refine And.intro ⟨rfl, rfl, rfl, Nat.le_of_ble_eq_true rfl⟩ (Exists.intro (S_Route.cells x6) (And.intro (fun _ => rfl) ?_))
        refine SeqN.go <| And.intro ⟨Nat.le_of_ble_eq_true rfl, Nat.le_of_ble_eq_true rfl⟩ <| NormE.to (S_Route.av x6) (fun _ => rfl) <| bind_elim h fun x7 hx7 h => CallH.data _ false rfl (script_way_ok E x6 x7 hx7) <| And.intro ⟨rfl, rfl, rfl, rfl⟩ <| And.intro ⟨rfl, rfl, rfl⟩ <| NormE.to (AV.list 1 (([x7] : List Bytes).map AV.str)) (fun _ => rfl) <| bind_elim h fun x8 hx8 h => ?_
        have qx8 := (app_some hx8).1
        have hx8e := (app_some hx8).2
        refine And.intro ⟨rfl, rfl, rfl⟩ <| And.intro rfl <| And.intro (app_cond AV.str qx8) <| NormE.to (AV.list 1 (x8.map AV.str)) (fun _ => (app_list 1 AV.str _ _).trans (congrArg (fun y => AV.list 1 (List.map AV.str y)) hx8e.symm)) <| SeqN.go ?_
        replace h := Option.some.inj h
        refine Exists.intro ⟨(n1, (x8, (IntKind.i64.wrap (s5 + (1 : Int))))), hl1 _ h.symm⟩ (And.intro (Nat.lt_succ_self _) ?_)
        refine Gho.to _ _ _ [2] ?_ ?_ ?_ rfl rfl ?_
        · exact ⟨⟨rfl, rfl, rfl⟩, trivial⟩
        · exact rfl
        · exact rfl
        · exact ⟨rfl, rfl, trivial, rfl, rfl, ⟨rfl, rfl⟩, rfl, rfl, trivial, rfl, rfl, trivial, rfl, rfl, trivial, trivial⟩
      · replace h := cond_ff h ht
        replace h := Option.some.inj h
        replace h := hr1 _ h.symm
        subst h
        refine Gho.to _ _ _ [0] ?_ ?_ ?_ rfl rfl ?_
        · exact ⟨⟨rfl, rfl, rfl⟩, trivial⟩
        · exact rfl
        · exact rfl
        · exact ⟨rfl, rfl, trivial, rfl, rfl, ⟨rfl, rfl⟩, trivial⟩
    · clear hj3
      refine bind_elim h fun j9 hj9 h => ?_
      refine SeqJ.join (St.of [⟨4, AV.list 1 (j9.map AV.str), some 0⟩] [] [1]) ?_ ?_
      · clear h; have h := hj9; clear hj9
        refine SeqJ.go <| NormE.to (AV.int .i64 ((a0.Deeds).length : Int)) (fun _ => len_list S_Deed.av (a0.Deeds)) <| SeqN.go ?_
        refine LoopE.img (fun x : ((List Bytes) × Int) => St.of [⟨4, AV.list 1 ((x.1).map AV.str), some 0⟩, ⟨30, AV.list 4 ((a0.Deeds).map S_Deed.av), none⟩, ⟨31, AV.int .i64 ((a0.Deeds).length : Int), none⟩, ⟨32, AV.int .i64 (x.2), none⟩] [] [1]) (script_Print_b2 a0) (j3, (0 : Int)) h ?_ ?_
        · refine Gho.to _ _ _ [0] ?_ ?_ ?_ rfl rfl ?_
          · exact trivial
          · exact rfl
          · exact rfl
          · exact ⟨rfl, rfl, ⟨rfl, rfl⟩, rfl, rfl, trivial, rfl, rfl, trivial, rfl, rfl, trivial, trivial⟩
        intro n2 x y2 h hl2 hr2
        obtain ⟨s10, s11⟩ := x
        unfold script_Print_b2 at h
        dsimp only at h
        refine SeqJ.go <| SeqN.go <| SeqJ.go ?_
        refine Br.mk (fun ht => ?_) (fun ht => ?_)
        · replace h := cond_tt h ht
          refine SeqN.go <| SeqJ.go <| SeqJ.go <| bind_elim h fun x12 hx12 h => ?_
          refine And.intro rfl (Exists.intro (S_Deed.av x12) (And.intro (fun hg => idx_map _ hx12) ?_))
          refine And.intro (Nat.le_of_ble_eq_true rfl) <| NormE.to (S_Deed.av x12) (fun _ => rfl) <| And.intro rfl ?_
          refine And.intro ⟨rfl, rfl, rfl, Nat.le_of_ble_eq_true rfl⟩ (Exists.intro (S_Deed.cells x12) (And.intro (fun _ => rfl) ?_))
          refine SeqN.go <| And.intro ⟨Nat.le_of_ble_eq_true rfl, Nat.le_of_ble_eq_true rfl⟩ <| NormE.to (S_Deed.av x12) (fun _ => rfl) <| bind_elim h fun x13 hx13 h => CallH.data _ false rfl (script_line_ok E x12 x13 hx13) <| And.intro ⟨rfl, rfl, rfl, rfl⟩ <| And.intro ⟨rfl, rfl, rfl⟩ <| NormE.to (AV.list 1 (([x13] : List Bytes).map AV.str)) (fun _ => rfl) <| bind_elim h fun x14 hx14 h => ?_
          have qx14 := (app_some hx14).1
          have hx14e := (app_some hx14).2
          refine And.intro ⟨rfl, rfl, rfl⟩ <| And.intro rfl <| And.intro (app_cond AV.str qx14) <| NormE.to (AV.list 1 (x14.map AV.str)) (fun _ => (app_list 1 AV.str _ _).trans (congrArg (fun y => AV.list 1 (List.map AV.str y)) hx14e.symm)) <| SeqN.go ?_
          replace h := Option.some.inj h
          refine Exists.intro ⟨(n2, (x14, (IntKind.i64.wrap (s11 + (1 : Int))))), hl2 _ h.symm⟩ (And.intro (Nat.lt_succ_self _) ?_)
          refine Gho.to _ _ _ [2] ?_ ?_ ?_ rfl rfl ?_
          · exact trivial
          · exact rfl
          · exact rfl
          · exact ⟨rfl, rfl, ⟨rfl, rfl⟩, rfl, rfl, trivial, rfl, rfl, trivial, rfl, rfl, trivial, trivial⟩
        · replace h := cond_ff h ht
          replace h := Option.some.inj h
          replace h := hr2 _ h.symm
          subst h
          refine Gho.to _ _ _ [0] ?_ ?_ ?_ rfl rfl ?_
          · exact trivial
          · exact rfl
          · exact rfl
          · exact ⟨rfl, rfl, ⟨rfl, rfl⟩, trivial⟩
      · clear hj9
        refine SeqJ.go <| bind_elim h fun x15 hx15 h => CallH.data _ false rfl (strings_Join_ok E j9 ([10] : Bytes) x15 hx15) <| bind_elim h fun x16 hx16 h => ?_
        have hx16c := (cat_some hx16).1
        have hx16e := (cat_some hx16).2
        refine And.intro (fun _ => hx16c) <| NormE.to (AV.str x16) (fun _ => congrArg AV.str hx16e.symm) <| SeqN.go ?_
        replace h := Option.some.inj h
        refine RetE.plain ?_
        exact And.intro rfl (And.intro (congrArg (fun r : (Bytes × Int) => AV.tup [AV.str (r.1), AV.int .i64 (r.2)]) h) rfl)

theorem script_get_ok (E : Pm.Env) [LaidE E] (a0 : (List Bytes)) (a1 : Int) (r : Bytes) (h : script_get a0 a1 = some r) : FnR E Tryz.prog 102 [AV.list 1 (a0.map AV.str), AV.int .i64 a1] (AV.str r) false := by
  refine FnR.of_ev (T := T) (rows := []) tOk mixed Tryz.func102 rfl (by kernel_rfl) (by kernel_rfl) rfl fun hwf => ?_
  unfold script_get at h
  refine SeqJ.go <| SeqN.go <| SeqJ.go <| SeqJ.go <| NormE.to (AV.int .i64 (a0.length : Int)) (fun _ => len_list AV.str a0) <| SeqN.go ?_
  refine Br.mk (fun ht => ?_) (fun ht => ?_)
  · replace h := cond_tt h ht
    refine SeqJ.go <| SeqN.go ?_
    replace h := Option.some.inj h
    refine RetE.plain ?_
    exact And.intro rfl (And.intro (congrArg (fun r : Bytes => AV.str r) h) rfl)
  · replace h := cond_ff h ht
    refine SeqN.go <| SeqJ.go <| bind_elim h fun x1 hx1 h => ?_
    refine And.intro rfl (Exists.intro (AV.str x1) (And.intro (fun hg => idx_map _ hx1) ?_))
    refine SeqN.go ?_
    replace h := Option.some.inj h
    refine RetE.plain ?_
    exact And.intro rfl (And.intro (congrArg (fun r : Bytes => AV.str r) h) rfl)

theorem script_parse_ok (E : Pm.Env) [LaidE E] (a0 : Bytes) (r : (S_Route × Bool)) (h : script_parse a0 = some r) : FnR E Tryz.prog 47 [AV.str a0] (AV.tup [S_Route.av (r.1), AV.bool (r.2)]) false := by
  refine FnR.of_ev (T := T) (rows := []) tOk mixed Tryz.func47 rfl (by kernel_rfl) (by kernel_rfl) rfl fun hwf => ?_
  unfold script_parse at h
  refine SeqJ.go <| And.intro rfl <| SeqN.go <| SeqJ.go <| bind_elim h fun x1 hx1 h => CallH.data _ false rfl (strings_Split_ok E a0 ([32] : Bytes) x1 hx1) <| SeqN.go <| SeqJ.go <| bind_elim h fun x2 hx2 h => CallH.data _ false rfl (script_get_ok E x1 (1 : Int) x2 hx2) <| bind_elim h fun x3 hx3 h => CallH.data _ false rfl (script_get_ok E x1 (2 : Int) x3 hx3) <| bind_elim h fun x4 hx4 h => CallH.data _ false rfl (script_get_ok E x1 (3 : Int) x4 hx4) <| And.intro ⟨rfl, rfl, Nat.le_of_ble_eq_true rfl⟩ <| And.intro ⟨rfl, rfl, Nat.le_of_ble_eq_true rfl⟩ <| And.intro ⟨rfl, rfl, Nat.le_of_ble_eq_true rfl⟩ <| And.intro rfl ?_
  refine And.intro ⟨rfl, rfl, rfl, Nat.le_of_ble_eq_true rfl⟩ (Exists.intro [AV.str x2, AV.str x3, AV.str x4] (And.intro (fun _ => rfl) ?_))
  refine SeqN.go <| SeqJ.go <| SeqJ.go ?_
  refine SeqN.via (St.of [⟨0, AV.str a0, none⟩, ⟨2, AV.ptr 0 0, none⟩, ⟨5, AV.ptr 1 0, none⟩, ⟨17, AV.bool (x2 == ([45] : Bytes)), none⟩] [.cells 92 [AV.str ([] : Bytes), AV.str ([] : Bytes), AV.str ([] : Bytes)] [], .cells 92 [AV.str x2, AV.str x3, AV.str x4] []] []) ?_ ?_
  · refine Gho.to _ _ _ [] ?_ ?_ ?_ rfl rfl ?_
    · exact ⟨⟨rfl, rfl, rfl⟩, ⟨⟨rfl, rfl, rfl⟩, trivial⟩⟩
    · exact rfl
    · exact rfl
    · exact ⟨rfl, rfl, trivial, rfl, rfl, trivial, rfl, rfl, trivial, rfl, rfl, trivial, trivial⟩
  refine Br.mk (fun ht => ?_) (fun ht => ?_)
  · replace h := cond_tt h ht
    refine And.intro ⟨rfl, rfl, rfl, Nat.le_of_ble_eq_true rfl⟩ (Exists.intro [AV.str ([] : Bytes), AV.str x3, AV.str x4] (And.intro (fun _ => rfl) ?_))
    refine SeqN.go <| SeqJ.go <| And.intro ⟨Nat.le_of_ble_eq_true rfl, Nat.le_of_ble_eq_true rfl⟩ <| NormE.to (AV.agg [AV.str ([] : Bytes), AV.str x3, AV.str x4]) (fun _ => rfl) <| And.intro ⟨Nat.le_of_ble_eq_true rfl, Nat.le_of_ble_eq_true rfl⟩ <| NormE.to (AV.agg [AV.str ([] : Bytes), AV.str x3, AV.str x4]) (fun _ => rfl) <| bind_elim h fun x5 hx5 h => CallH.data _ false rfl (script_way_ok E (S_Route.mk ([] : Bytes) x3 x4) x5 hx5) ?_
    refine And.intro ⟨rfl, rfl, rfl, Nat.le_of_ble_eq_true rfl⟩ (Exists.intro [AV.str ([] : Bytes), AV.str x3, AV.str x4] (And.intro (fun _ => rfl) ?_))
    refine And.intro (by kernel_rfl) <| SeqN.go ?_
    replace h := Option.some.inj h
    refine RetE.plain ?_
    refine And.intro ⟨Nat.le_of_ble_eq_true rfl, Nat.le_of_ble_eq_true rfl⟩ (Exists.intro (AV.agg [AV.str ([] : Bytes), AV.str x3, AV.str x4]) (And.intro rfl ?_))
    exact And.intro rfl (And.intro (congrArg (fun r : (S_Route × Bool) => AV.tup [S_Route.av (r.1), AV.bool (r.2)]) h) rfl)
  · replace h := cond_ff h ht
    refine SeqN.go <| SeqJ.go <| And.intro ⟨Nat.le_of_ble_eq_true rfl, Nat.le_of_ble_eq_true rfl⟩ <| NormE.to (AV.agg [AV.str x2, AV.str x3, AV.str x4]) (fun _ => rfl) <| And.intro ⟨Nat.le_of_ble_eq_true rfl, Nat.le_of_ble_eq_true rfl⟩ <| NormE.to (AV.agg [AV.str x2, AV.str x3, AV.str x4]) (fun _ => rfl) <| bind_elim h fun x6 hx6 h => CallH.data _ false rfl (script_way_ok E (S_Route.mk x2 x3 x4) x6 hx6) ?_
    refine And.intro ⟨rfl, rfl, rfl, Nat.le_of_ble_eq_true rfl⟩ (Exists.intro [AV.str x2, AV.str x3, AV.str x4] (And.intro (fun _ => rfl) ?_))
    refine And.intro (by kernel_rfl) <| SeqN.go ?_
    replace h := Option.some.inj h
    refine RetE.plain ?_
    refine And.intro ⟨Nat.le_of_ble_eq_true rfl, Nat.le_of_ble_eq_true rfl⟩ (Exists.intro (AV.agg [AV.str x2, AV.str x3, AV.str x4]) (And.intro rfl ?_))
    exact And.intro rfl (And.intro (congrArg (fun r : (S_Route × Bool) => AV.tup [S_Route.av (r.1), AV.bool (r.2)]) h) rfl)

theorem slices_Index__string_string_ok (E : Pm.Env) [LaidE E] (a0 : (List Bytes)) (a1 : Bytes) (r : Int) (h : slices_Index__string_string a0 a1 = some r) : FnR E Tryz.prog 103 [AV.list 1 (a0.map AV.str), AV.str a1] (AV.int .i64 r) false := by
  refine FnR.of_ev (T := T) (rows := []) tOk mixed Tryz.func103 rfl (by kernel_rfl) (by kernel_rfl) rfl fun hwf => ?_
  unfold slices_Index__string_string at h
  refine SeqJ.go <| SeqN.go <| SeqJ.go <| SeqJ.go <| NormE.to (AV.int .i64 (a0.length : Int)) (fun _ => len_list AV.str a0) <| SeqN.go ?_
  refine LoopE.img (fun x : Int => St.of [⟨0, AV.list 1 (a0.map AV.str), none⟩, ⟨1, AV.str a1, none⟩, ⟨7, AV.int .i64 (a0.length : Int), none⟩, ⟨8, AV.int .i64 x, none⟩] [] []) (slices_Index__string_string_b1 a0 a1) (0 : Int) h ?_ ?_
  · refine Gho.to _ _ _ [] ?_ ?_ ?_ rfl rfl ?_
    · exact trivial
    · exact rfl
    · exact rfl
    · exact ⟨rfl, rfl, trivial, rfl, rfl, trivial, rfl, rfl, trivial, rfl, rfl, trivial, trivial⟩
  intro n1 x y1 h hl1 hr1
  revert h; revert x; intro s1 h
  unfold slices_Index__string_string_b1 at h
  refine SeqJ.go <| SeqN.go <| SeqJ.go ?_
  refine Br.mk (fun ht => ?_) (fun ht => ?_)
  · replace h := cond_tt h ht
    refine SeqN.go <| SeqJ.go <| SeqJ.go <| SeqN.go <| SeqJ.go <| bind_elim h fun x2 hx2 h => ?_
    refine And.intro rfl (Exists.intro (AV.str x2) (And.intro (fun hg => idx_map _ hx2) ?_))
    refine SeqN.go ?_
    refine Br.mk (fun ht => ?_) (fun ht => ?_)
    · replace h := cond_tt h ht
      refine SeqJ.go <| SeqN.go ?_
      replace h := Option.some.inj h
      replace h := hr1 _ h.symm
      refine RetE.plain ?_
      exact And.intro rfl (And.intro (congrArg (fun r : Int => AV.int .i64 r) h) rfl)
    · replace h := cond_ff h ht
      refine SeqN.go ?_
      replace h := Option.some.inj h
      refine Exists.intro ⟨(n1, (IntKind.i64.wrap (s1 + (1 : Int)))), hl1 _ h.symm⟩ (And.intro (Nat.lt_succ_self _) ?_)
      refine Gho.to _ _ _ [] ?_ ?_ ?_ rfl rfl ?_
      · exact trivial
      · exact rfl
      · exact rfl
      · exact ⟨rfl, rfl, trivial, rfl, rfl, trivial, rfl, rfl, trivial, rfl, rfl, trivial, trivial⟩
  · replace h := cond_ff h ht
    refine SeqN.go <| SeqJ.go <| SeqN.go ?_
    replace h := Option.some.inj h
    replace h := hr1 _ h.symm
    refine RetE.plain ?_
    exact And.intro rfl (And.intro (congrArg (fun r : Int => AV.int .i64 r) h) rfl)

theorem script_unhexed_ok (E : Pm.Env) [LaidE E] (a0 : Bytes) (r : (Bytes × Bool)) (h : script_unhexed a0 = some r) : FnR E Tryz.prog 105 [AV.str a0] (AV.tup [AV.str (r.1), AV.bool (r.2)]) false := by
  refine FnR.of_ev (T := T) (rows := []) tOk mixed Tryz.func105 rfl (by kernel_rfl) (by kernel_rfl) rfl fun hwf => ?_
  unfold script_unhexed at h
  refine SeqJ.go <| SeqN.go <| SeqJ.go <| SeqN.go <| SeqJ.go ?_
  refine LoopE.img (fun x : (Bytes × (List UInt8)) => St.of [⟨0, AV.str (x.1), none⟩, ⟨4, AV.list 1 ((x.2).map byteAV), some 0⟩] [] [1]) (script_unhexed_b1) (a0, ([] : List UInt8)) h ?_ ?_
  · refine Gho.to _ _ _ [0] ?_ ?_ ?_ rfl rfl ?_
    · exact trivial
    · exact rfl
    · exact rfl
    · exact ⟨rfl, rfl, trivial, rfl, rfl, ⟨rfl, rfl⟩, trivial⟩
  intro n1 x y1 h hl1 hr1
  obtain ⟨s1, s2⟩ := x
  unfold script_unhexed_b1 at h
  dsimp only at h
  refine SeqJ.go <| SeqJ.go <| NormE.same <| SeqN.go ?_
  refine Br.mk (fun ht => ?_) (fun ht => ?_)
  · replace h := cond_tt h ht
    refine SeqN.go <| SeqJ.go <| SeqJ.go <| bind_elim h fun x3 hx3 h => ?_
    refine Exists.intro x3 (And.intro (fun hg => idx_some hx3) ?_)
    refine bind_elim h fun x4 hx4 h => CallH.data _ false rfl (strings_IndexByte_ok E ([48, 49, 50, 51, 52, 53, 54, 55, 56, 57, 97, 98, 99, 100, 101, 102] : Bytes) (x3.toNat : Int) x4 hx4) <| bind_elim h fun x5 hx5 h => ?_
    refine Exists.intro x5 (And.intro (fun hg => idx_some hx5) ?_)
    refine bind_elim h fun x6 hx6 h => CallH.data _ false rfl (strings_IndexByte_ok E ([48, 49, 50, 51, 52, 53, 54, 55, 56, 57, 97, 98, 99, 100, 101, 102] : Bytes) (x5.toNat : Int) x6 hx6) <| And.intro (by kernel_rfl) <| SeqN.go <| SeqJ.go <| SeqJ.go <| And.intro (fun hg => hg) <| And.intro (fun hg => (and_r hg)) ?_
    refine SeqN.via (St.of [⟨0, AV.str s1, none⟩, ⟨4, AV.list 1 (s2.map byteAV), some 0⟩, ⟨5, AV.int .i64 x4, none⟩, ⟨6, AV.int .i64 x6, none⟩, ⟨23, AV.bool (bif (decide (x4 < (0 : Int))) then true else (decide (x6 < (0 : Int)))), none⟩] [] [1]) ?_ ?_
    · refine Gho.to _ _ _ [0] ?_ ?_ ?_ rfl rfl ?_
      · exact trivial
      · exact rfl
      · exact rfl
      · exact ⟨rfl, rfl, trivial, rfl, rfl, ⟨rfl, rfl⟩, rfl, rfl, trivial, rfl, rfl, trivial, rfl, rfl, trivial, trivial⟩
    refine Br.mk (fun ht => ?_) (fun ht => ?_)
    · replace h := cond_tt h ht
      refine SeqJ.go <| SeqN.go ?_
      replace h := Option.some.inj h
      replace h := hr1 _ h.symm
      refine RetE.plain ?_
      exact And.intro rfl (And.intro (congrArg (fun r : (Bytes × Bool) => AV.tup [AV.str (r.1), AV.bool (r.2)]) h) rfl)
    · replace h := cond_ff h ht
      refine SeqN.go <| chk_elim h fun q7 h => And.intro (fun _ => q7) <| And.intro ⟨rfl, rfl, rfl, rfl⟩ <| And.intro ⟨rfl, rfl, rfl⟩ <| NormE.to (AV.list 1 (([u8 (IntKind.u8.wrap (bits .or .i64 (IntKind.i64.wrap (x4 * 2 ^ (4 : Int).toNat)) x6))] : List UInt8).map byteAV)) (fun hw => bytes1 hw) <| bind_elim h fun x8 hx8 h => ?_
      have qx8 := (app_some hx8).1
      have hx8e := (app_some hx8).2
      refine And.intro ⟨rfl, rfl, rfl⟩ <| And.intro rfl <| And.intro (app_cond byteAV qx8) <| NormE.to (AV.list 1 (x8.map byteAV)) (fun _ => (app_list 1 byteAV _ _).trans (congrArg (fun y => AV.list 1 (List.map byteAV y)) hx8e.symm)) <| SeqN.go <| bind_elim h fun x9 hx9 h => ?_
      have qx9 := (slc_some hx9).1
      have hx9e := (slc_some hx9).2
      refine And.intro (fun _ => qx9) <| NormE.to (AV.str x9) (fun _ => congrArg AV.str hx9e.symm) ?_
      replace h := Option.some.inj h
      refine Exists.intro ⟨(n1, (x9, x8)), hl1 _ h.symm⟩ (And.intro (Nat.lt_succ_self _) ?_)
      refine Gho.to _ _ _ [2] ?_ ?_ ?_ rfl rfl ?_
      · exact trivial
      · exact rfl
      · exact rfl
      · exact ⟨rfl, rfl, trivial, rfl, rfl, ⟨rfl, rfl⟩, trivial⟩
  · replace h := cond_ff h ht
    refine SeqN.go <| SeqJ.go ?_
    refine And.intro rfl (And.intro rfl (Exists.intro s2 (And.intro rfl ?_)))
    refine SeqN.go ?_
    replace h := Option.some.inj h
    replace h := hr1 _ h.symm
    refine RetE.plain ?_
    exact And.intro rfl (And.intro (congrArg (fun r : (Bytes × Bool) => AV.tup [AV.str (r.1), AV.bool (r.2)]) h) rfl)

theorem script_deed_ok (E : Pm.Env) [LaidE E] (a0 : Bytes) (r : S_Deed) (h : script_deed a0 = some r) : FnR E Tryz.prog 48 [AV.str a0] (S_Deed.av r) false := by
  refine FnR.of_ev (T := T) (rows := []) tOk mixed Tryz.func48 rfl (by kernel_rfl) (by kernel_rfl) rfl fun hwf => ?_
  unfold script_deed at h
  refine SeqJ.go <| And.intro rfl <| SeqN.go <| SeqJ.go <| bind_elim h fun x1 hx1 h => CallH.data _ false rfl (strings_Split_ok E a0 ([32] : Bytes) x1 hx1) <| SeqN.go <| SeqJ.go <| bind_elim h fun x2 hx2 h => CallH.data _ true rfl (script_words_ok E  x2 hx2) <| bind_elim h fun x3 hx3 h => ?_
  refine And.intro rfl (Exists.intro (AV.str x3) (And.intro (fun hg => idx_map _ hx3) ?_))
  refine bind_elim h fun x4 hx4 h => CallH.data _ false rfl (slices_Index__string_string_ok E x2 x3 x4 hx4) <| And.intro ⟨rfl, rfl, Nat.le_of_ble_eq_true rfl⟩ <| And.intro rfl ?_
  refine And.intro ⟨rfl, rfl, rfl, Nat.le_of_ble_eq_true rfl⟩ (Exists.intro [AV.int .i64 (IntKind.i64.wrap (x4 + (1 : Int))), AV.int .i64 (0 : Int), AV.str ([] : Bytes), AV.bool false] (And.intro (fun _ => rfl) ?_))
  refine And.intro (by kernel_rfl) <| SeqN.go <| SeqJ.go <| bind_elim h fun x5 hx5 h => CallH.data _ false rfl (script_get_ok E x1 (1 : Int) x5 hx5) <| bind_elim h fun x6 hx6 h => CallH.data _ false rfl (number_ReadDec_ok E x5 x6 hx6) ?_
  refine SeqN.via (St.of [⟨2, AV.ptr 0 0, none⟩, ⟨3, AV.list 1 (x1.map AV.str), none⟩, ⟨4, AV.ptr 1 0, none⟩, ⟨5, AV.int .u64 (x6.1), none⟩] [.cells 94 [AV.int .i64 (0 : Int), AV.int .i64 (0 : Int), AV.str ([] : Bytes), AV.bool false] [], .cells 94 [AV.int .i64 (IntKind.i64.wrap (x4 + (1 : Int))), AV.int .i64 (0 : Int), AV.str ([] : Bytes), AV.bool false] []] []) ?_ ?_
  · refine Gho.to _ _ _ [] ?_ ?_ ?_ rfl rfl ?_
    · exact ⟨⟨rfl, rfl, rfl⟩, ⟨⟨rfl, rfl, rfl⟩, trivial⟩⟩
    · exact rfl
    · exact rfl
    · exact ⟨rfl, rfl, trivial, rfl, rfl, trivial, rfl, rfl, trivial, rfl, rfl, trivial, trivial⟩
  refine SeqJ.go <| NormE.to (AV.int .i64 (x1.length : Int)) (fun _ => len_list AV.str x1) <| bind_elim h fun x7 hx7 h => ?_
  refine And.intro rfl (Exists.intro (AV.str x7) (And.intro (fun hg => idx_map _ hx7) ?_))
  refine bind_elim h fun x8 hx8 h => CallH.data _ false rfl (script_unhexed_ok E x7 x8 hx8) <| SeqN.go <| SeqJ.go <| SeqJ.go <| SeqN.go <| SeqJ.go ?_
  refine SeqN.via (St.of [⟨2, AV.ptr 0 0, none⟩, ⟨3, AV.list 1 (x1.map AV.str), none⟩, ⟨4, AV.ptr 1 0, none⟩, ⟨5, AV.int .u64 (x6.1), none⟩, ⟨7, AV.str (x8.1), none⟩, ⟨35, AV.int .i64 (IntKind.i64.wrap (x4 + (1 : Int))), none⟩, ⟨36, AV.bool ((IntKind.i64.wrap (x4 + (1 : Int))) == (1 : Int)), none⟩] [.cells 94 [AV.int .i64 (0 : Int), AV.int .i64 (0 : Int), AV.str ([] : Bytes), AV.bool false] [], .cells 94 [AV.int .i64 (IntKind.i64.wrap (x4 + (1 : Int))), AV.int .i64 (0 : Int), AV.str ([] : Bytes), AV.bool false] []] []) ?_ ?_
  · refine Gho.to _ _ _ [] ?_ ?_ ?_ rfl rfl ?_
    · exact ⟨⟨rfl, rfl, rfl⟩, ⟨⟨rfl, rfl, rfl⟩, trivial⟩⟩
    · exact rfl
    · exact rfl
    · exact ⟨rfl, rfl, trivial, rfl, rfl, trivial, rfl, rfl, trivial, rfl, rfl, trivial, rfl, rfl, trivial, rfl, rfl, trivial, rfl, rfl, trivial, trivial⟩
  refine Br.mk (fun ht => ?_) (fun ht => ?_)
  · replace h := cond_tt h ht
    refine And.intro ⟨rfl, rfl, rfl, Nat.le_of_ble_eq_true rfl⟩ (Exists.intro [AV.int .i64 (IntKind.i64.wrap (x4 + (1 : Int))), AV.int .i64 (0 : Int), AV.str (x8.1), AV.bool false] (And.intro (fun _ => rfl) ?_))
    refine SeqN.go <| SeqJ.go <| And.intro ⟨Nat.le_of_ble_eq_true rfl, Nat.le_of_ble_eq_true rfl⟩ <| NormE.to (AV.agg [AV.int .i64 (IntKind.i64.wrap (x4 + (1 : Int))), AV.int .i64 (0 : Int), AV.str (x8.1), AV.bool false]) (fun _ => rfl) ?_
    refine And.intro ⟨rfl, rfl, rfl, Nat.le_of_ble_eq_true rfl⟩ (Exists.intro [AV.int .i64 (IntKind.i64.wrap (x4 + (1 : Int))), AV.int .i64 (0 : Int), AV.str (x8.1), AV.bool false] (And.intro (fun _ => rfl) ?_))
    refine SeqN.go ?_
    replace h := Option.some.inj h
    refine RetE.plain ?_
    refine And.intro ⟨Nat.le_of_ble_eq_true rfl, Nat.le_of_ble_eq_true rfl⟩ (Exists.intro (AV.agg [AV.int .i64 (IntKind.i64.wrap (x4 + (1 : Int))), AV.int .i64 (0 : Int), AV.str (x8.1), AV.bool false]) (And.intro rfl ?_))
    exact And.intro rfl (And.intro (congrArg (fun r : S_Deed => S_Deed.av r) h) rfl)
  · replace h := cond_ff h ht
    refine SeqJ.go <| SeqN.go ?_
    refine Br.mk (fun ht => ?_) (fun ht => ?_)
    · replace h := cond_tt h ht
      refine And.intro ⟨rfl, rfl, rfl, Nat.le_of_ble_eq_true rfl⟩ (Exists.intro [AV.int .i64 (IntKind.i64.wrap (x4 + (1 : Int))), AV.int .i64 (IntKind.i64.wrap (x6.1)), AV.str ([] : Bytes), AV.bool false] (And.intro (fun _ => rfl) ?_))
      refine SeqN.go <| SeqJ.go <| And.intro ⟨Nat.le_of_ble_eq_true rfl, Nat.le_of_ble_eq_true rfl⟩ <| NormE.to (AV.agg [AV.int .i64 (IntKind.i64.wrap (x4 + (1 : Int))), AV.int .i64 (IntKind.i64.wrap (x6.1)), AV.str ([] : Bytes), AV.bool false]) (fun _ => rfl) ?_
      refine And.intro ⟨rfl, rfl, rfl, Nat.le_of_ble_eq_true rfl⟩ (Exists.intro [AV.int .i64 (IntKind.i64.wrap (x4 + (1 : Int))), AV.int .i64 (IntKind.i64.wrap (x6.1)), AV.str ([] : Bytes), AV.bool false] (And.intro (fun _ => rfl) ?_))
      refine SeqN.go ?_
      replace h := Option.some.inj h
      refine RetE.plain ?_
      refine And.intro ⟨Nat.le_of_ble_eq_true rfl, Nat.le_of_ble_eq_true rfl⟩ (Exists.intro (AV.agg [AV.int .i64 (IntKind.i64.wrap (x4 + (1 : Int))), AV.int .i64 (IntKind.i64.wrap (x6.1)), AV.str ([] : Bytes), AV.bool false]) (And.intro rfl ?_))
      exact And.intro rfl (And.intro (congrArg (fun r : S_Deed => S_Deed.av r) h) rfl)
    · replace h := cond_ff h ht
      refine SeqJ.go <| SeqN.go ?_
      refine Br.mk (fun ht => ?_) (fun ht => ?_)
      · replace h := cond_tt h ht
        refine And.intro ⟨rfl, rfl, rfl, Nat.le_of_ble_eq_true rfl⟩ (Exists.intro [AV.int .i64 (IntKind.i64.wrap (x4 + (1 : Int))), AV.int .i64 (IntKind.i64.wrap (x6.1)), AV.str ([] : Bytes), AV.bool false] (And.intro (fun _ => rfl) ?_))
        refine And.intro ⟨rfl, rfl, rfl, Nat.le_of_ble_eq_true rfl⟩ (Exists.intro [AV.int .i64 (IntKind.i64.wrap (x4 + (1 : Int))), AV.int .i64 (IntKind.i64.wrap (x6.1)), AV.str (x8.1), AV.bool false] (And.intro (fun _ => rfl) ?_))
        refine SeqN.go <| SeqJ.go <| And.intro ⟨Nat.le_of_ble_eq_true rfl, Nat.le_of_ble_eq_true rfl⟩ <| NormE.to (AV.agg [AV.int .i64 (IntKind.i64.wrap (x4 + (1 : Int))), AV.int .i64 (IntKind.i64.wrap (x6.1)), AV.str (x8.1), AV.bool false]) (fun _ => rfl) ?_
        refine And.intro ⟨rfl, rfl, rfl, Nat.le_of_ble_eq_true rfl⟩ (Exists.intro [AV.int .i64 (IntKind.i64.wrap (x4 + (1 : Int))), AV.int .i64 (IntKind.i64.wrap (x6.1)), AV.str (x8.1), AV.bool false] (And.intro (fun _ => rfl) ?_))
        refine SeqN.go ?_
        replace h := Option.some.inj h
        refine RetE.plain ?_
        refine And.intro ⟨Nat.le_of_ble_eq_true rfl, Nat.le_of_ble_eq_true rfl⟩ (Exists.intro (AV.agg [AV.int .i64 (IntKind.i64.wrap (x4 + (1 : Int))), AV.int .i64 (IntKind.i64.wrap (x6.1)), AV.str (x8.1), AV.bool false]) (And.intro rfl ?_))
        exact And.intro rfl (And.intro (congrArg (fun r : S_Deed => S_Deed.av r) h) rfl)
      · replace h := cond_ff h ht
        refine SeqJ.go <| SeqN.go ?_
        refine Br.mk (fun ht => ?_) (fun ht => ?_)
        · replace h := cond_tt h ht
          refine NormE.to (AV.int .i64 (x1.length : Int)) (fun _ => len_list AV.str x1) <| bind_elim h fun x9 hx9 h => ?_
          refine And.intro rfl (Exists.intro (AV.str x9) (And.intro (fun hg => idx_map _ hx9) ?_))
          refine And.intro ⟨rfl, rfl, rfl, Nat.le_of_ble_eq_true rfl⟩ (Exists.intro [AV.int .i64 (IntKind.i64.wrap (x4 + (1 : Int))), AV.int .i64 (IntKind.i64.wrap (x6.1)), AV.str ([] : Bytes), AV.bool false] (And.intro (fun _ => rfl) ?_))
          refine And.intro ⟨rfl, rfl, rfl, Nat.le_of_ble_eq_true rfl⟩ (Exists.intro [AV.int .i64 (IntKind.i64.wrap (x4 + (1 : Int))), AV.int .i64 (IntKind.i64.wrap (x6.1)), AV.str ([] : Bytes), AV.bool (x9 == ([99, 108, 101, 97, 110] : Bytes))] (And.intro (fun _ => rfl) ?_))
          refine And.intro (by kernel_rfl) ?_
          refine SeqN.via (St.of [⟨2, AV.ptr 0 0, none⟩, ⟨4, AV.ptr 1 0, none⟩] [.cells 94 [AV.int .i64 (0 : Int), AV.int .i64 (0 : Int), AV.str ([] : Bytes), AV.bool false] [], .cells 94 [AV.int .i64 (IntKind.i64.wrap (x4 + (1 : Int))), AV.int .i64 (IntKind.i64.wrap (x6.1)), AV.str ([] : Bytes), AV.bool (x9 == ([99, 108, 101, 97, 110] : Bytes))] []] []) ?_ ?_
          · refine Gho.to _ _ _ [] ?_ ?_ ?_ rfl rfl ?_
            · exact ⟨⟨rfl, rfl, rfl⟩, ⟨⟨rfl, rfl, rfl⟩, trivial⟩⟩
            · exact rfl
            · exact rfl
            · exact ⟨rfl, rfl, trivial, rfl, rfl, trivial, trivial⟩
          refine SeqJ.go <| And.intro ⟨Nat.le_of_ble_eq_true rfl, Nat.le_of_ble_eq_true rfl⟩ <| NormE.to (AV.agg [AV.int .i64 (IntKind.i64.wrap (x4 + (1 : Int))), AV.int .i64 (IntKind.i64.wrap (x6.1)), AV.str ([] : Bytes), AV.bool (x9 == ([99, 108, 101, 97, 110] : Bytes))]) (fun _ => rfl) ?_
          refine And.intro ⟨rfl, rfl, rfl, Nat.le_of_ble_eq_true rfl⟩ (Exists.intro [AV.int .i64 (IntKind.i64.wrap (x4 + (1 : Int))), AV.int .i64 (IntKind.i64.wrap (x6.1)), AV.str ([] : Bytes), AV.bool (x9 == ([99, 108, 101, 97, 110] : Bytes))] (And.intro (fun _ => rfl) ?_))
          refine SeqN.go ?_
          replace h := Option.some.inj h
          refine RetE.plain ?_
          refine And.intro ⟨Nat.le_of_ble_eq_true rfl, Nat.le_of_ble_eq_true rfl⟩ (Exists.intro (AV.agg [AV.int .i64 (IntKind.i64.wrap (x4 + (1 : Int))), AV.int .i64 (IntKind.i64.wrap (x6.1)), AV.str ([] : Bytes), AV.bool (x9 == ([99, 108, 101, 97, 110] : Bytes))]) (And.intro rfl ?_))
          exact And.intro rfl (And.intro (congrArg (fun r : S_Deed => S_Deed.av r) h) rfl)
        · replace h := cond_ff h ht
          refine SeqN.go <| SeqJ.go <| And.intro ⟨Nat.le_of_ble_eq_true rfl, Nat.le_of_ble_eq_true rfl⟩ <| NormE.to (AV.agg [AV.int .i64 (IntKind.i64.wrap (x4 + (1 : Int))), AV.int .i64 (0 : Int), AV.str ([] : Bytes), AV.bool false]) (fun _ => rfl) ?_
          refine And.intro ⟨rfl, rfl, rfl, Nat.le_of_ble_eq_true rfl⟩ (Exists.intro [AV.int .i64 (IntKind.i64.wrap (x4 + (1 : Int))), AV.int .i64 (0 : Int), AV.str ([] : Bytes), AV.bool false] (And.intro (fun _ => rfl) ?_))
          refine SeqN.go ?_
          replace h := Option.some.inj h
          refine RetE.plain ?_
          refine And.intro ⟨Nat.le_of_ble_eq_true rfl, Nat.le_of_ble_eq_true rfl⟩ (Exists.intro (AV.agg [AV.int .i64 (IntKind.i64.wrap (x4 + (1 : Int))), AV.int .i64 (0 : Int), AV.str ([] : Bytes), AV.bool false]) (And.intro rfl ?_))
          exact And.intro rfl (And.intro (congrArg (fun r : S_Deed => S_Deed.av r) h) rfl)

theorem stringslite_TrimPrefix_ok (E : Pm.Env) [LaidE E] (a0 : Bytes) (a1 : Bytes) (r : Bytes) (h : stringslite_TrimPrefix a0 a1 = some r) : FnR E Tryz.prog 106 [AV.str a0, AV.str a1] (AV.str r) false := by
  refine FnR.of_ev (T := T) (rows := []) tOk mixed Tryz.func106 rfl (by kernel_rfl) (by kernel_rfl) rfl fun hwf => ?_
  unfold stringslite_TrimPrefix at h
  refine SeqJ.go <| SeqN.go <| SeqJ.go <| SeqJ.go <| bind_elim h fun x1 hx1 h => CallH.data _ false rfl (stringslite_HasPrefix_ok E a0 a1 x1 hx1) <| SeqN.go ?_
  refine Br.mk (fun ht => ?_) (fun ht => ?_)
  · replace h := cond_tt h ht
    refine SeqJ.go <| NormE.same <| bind_elim h fun x2 hx2 h => ?_
    have qx2 := (slc_some hx2).1
    have hx2e := (slc_some hx2).2
    refine And.intro (fun _ => qx2) <| NormE.to (AV.str x2) (fun _ => congrArg AV.str hx2e.symm) <| SeqN.go ?_
    replace h := Option.some.inj h
    refine RetE.plain ?_
    exact And.intro rfl (And.intro (congrArg (fun r : Bytes => AV.str r) h) rfl)
  · replace h := cond_ff h ht
    refine SeqN.go <| SeqJ.go <| SeqN.go ?_
    replace h := Option.some.inj h
    refine RetE.plain ?_
    exact And.intro rfl (And.intro (congrArg (fun r : Bytes => AV.str r) h) rfl)

theorem strings_TrimPrefix_ok (E : Pm.Env) [LaidE E] (a0 : Bytes) (a1 : Bytes) (r : Bytes) (h : strings_TrimPrefix a0 a1 = some r) : FnR E Tryz.prog 49 [AV.str a0, AV.str a1] (AV.str r) false := by
  refine FnR.of_ev (T := T) (rows := []) tOk mixed Tryz.func49 rfl (by kernel_rfl) (by kernel_rfl) rfl fun hwf => ?_
  unfold strings_TrimPrefix at h
  refine SeqJ.go <| SeqN.go <| SeqJ.go <| bind_elim h fun x1 hx1 h => CallH.data _ false rfl (stringslite_TrimPrefix_ok E a0 a1 x1 hx1) <| SeqN.go ?_
  replace h := Option.some.inj h
  refine RetE.plain ?_
  exact And.intro rfl (And.intro (congrArg (fun r : Bytes => AV.str r) h) rfl)

end Go.Proofs.YtkfoahoplndelaaGreatDoor
