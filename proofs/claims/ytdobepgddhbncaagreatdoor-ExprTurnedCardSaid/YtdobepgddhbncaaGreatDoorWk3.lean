/-
  The functions do what their images say: walks, written by a program of mine (gen.py).
-/
import Derived.Test.YtdobepgddhbncaaGreatDoorIv1
import Derived.Test.YtdobepgddhbncaaGreatDoorWk2
namespace Go.Proofs.YtdobepgddhbncaaGreatDoor
open Go Go.Pm
set_option linter.unusedSimpArgs false
open And renaming intro → ai
open Exists renaming intro → xi
open Option.some renaming inj → oi
open _root_.Nat renaming le_of_ble_eq_true → lb
open Go.Pm.SeqJ renaming go → sj
open Go.Pm.SeqN renaming go → sn
set_option maxRecDepth 100000
set_option maxHeartbeats 4000000
set_option linter.unusedVariables false
theorem pairs_parts_pairs_Languages_1_ok (E : Pm.Env) [LaidE E] (a0 : Bytes) (a1 : Bytes) (oa20 : (List Bytes)) (r : Unit) (oa20' : (List Bytes)) (h : pairs_parts_pairs_Languages_1 a0 a1 oa20 = some (r, oa20')) : FnW E Tryz.prog 176 [ss a0, ss a1, AV.fn 182 [] [AV.ptr 0 0]] [.cells 45 [AV.list 1 (oa20.map AV.str)] [(0, 0)]] [1] (AV.tup []) none [.cells 45 [AV.list 1 (oa20'.map AV.str)] [(0, 1)]] [0, 1] := by
 refine FnW.of_evB (T := T) (rows := []) tOk mixed Tryz.func176 rfl (by kernel_rfl) (by kernel_rfl) rfl rfl fun hwf => ?_
 unfold pairs_parts_pairs_Languages_1 at h
 refine sj <| bind_elim h fun x1 hx1 h => CallH.data _ false rfl (strings_Split_ok E a0 a1 x1 hx1) <| NormE.to (ii (x1.length : Int)) (fun _ => len_list ss x1) <| sn ?_
 refine LoopE.img (fun x : (Int × (List Bytes)) => St.of [⟨2, AV.fn 182 [] [AV.ptr 0 0], none⟩, ⟨10, AV.list 1 (x1.map AV.str), none⟩, ⟨11, ii (x1.length : Int), none⟩, ⟨12, ii x.1, none⟩] [.cells 45 [AV.list 1 (x.2.map AV.str)] [(0, 1)]] [0, 1]) (pairs_parts_pairs_Languages_1_b1 x1) ((0 : Int), oa20) h ?_ ?_
 ·refine Gho.to _ _ _ [0, 0] ?_ ?_ ?_ rfl rfl ?_
  ·exact ⟨⟨rfl, rfl, rfl⟩, trivial⟩
  ·exact rfl
  ·exact rfl
  ·exact tr3 <| tr3 <| tr3 <| tr3 <| trivial
 intro n1 x y1 h hl1 hr1
 obtain ⟨s2, s3⟩ := x
 unfold pairs_parts_pairs_Languages_1_b1 at h
 dsimp only at h
 refine sj <| sn <| sj ?_
 refine Br.of h (fun ht h => ?_) fun ht h => ?_
 ·refine sn <| sj <| sj <| bind_elim h fun x4 hx4 h => ?_
  refine ai rfl (xi (ss x4) (ai (fun hg => idx_map _ hx4) ?_))
  refine sn <| sj <| sn ?_
  refine Br.of h (fun ht h => ?_) fun ht h => ?_
  ·refine bind_elim h fun x5 hx5 h => CallH.ren [0] [1] [.cells 45 [AV.list 1 (x5.2.map AV.str)] [(0, 2)]] [0, 0, 1] (pairs_Languages_1_ok E x4 s3 x5.1 x5.2 hx5) rfl rfl rfl rfl rfl rfl rfl rfl rfl <| sn ?_
   replace h := oi h
   refine xi ⟨(n1, ((IntKind.i64.wrap (s2 + (1 : Int))), x5.2)), hl1 _ h.symm⟩ (ai (Nat.lt_succ_self _) ?_)
   refine Gho.to _ _ _ [0, 2] ?_ ?_ ?_ rfl rfl ?_
   ·exact ⟨⟨rfl, rfl, rfl⟩, trivial⟩
   ·exact rfl
   ·exact rfl
   ·exact tr3 <| tr3 <| tr3 <| tr3 <| trivial
  ·refine sn ?_
   replace h := oi h
   refine xi ⟨(n1, ((IntKind.i64.wrap (s2 + (1 : Int))), s3)), hl1 _ h.symm⟩ (ai (Nat.lt_succ_self _) ?_)
   refine Gho.to _ _ _ [0, 1] ?_ ?_ ?_ rfl rfl ?_
   ·exact ⟨⟨rfl, rfl, rfl⟩, trivial⟩
   ·exact rfl
   ·exact rfl
   ·exact tr3 <| tr3 <| tr3 <| tr3 <| trivial
 ·replace h := oi h
  replace h := hr1 _ h.symm
  have h0 := (Prod.mk.inj h).1
  have h1 := (Prod.mk.inj h).2
  subst h0
  subst h1
  refine xi [] (xi [.cells 45 [AV.list 1 (s3.map AV.str)] [(0, 1)]] (ai rfl (ai (Gho.to _ _ _ [0, 1] ?_ ?_ ?_ rfl rfl ?_) (ai ?_ rfl))))
  ·exact ⟨⟨rfl, rfl, rfl⟩, trivial⟩
  ·exact rfl
  ·exact rfl
  ·exact trivial
  ·exact rfl
theorem pairs_Languages_ok (E : Pm.Env) [LaidE E] (a0 : Bytes) (r : (List Bytes)) (h : pairs_Languages a0 = some r) : FnR E Tryz.prog 161 [ss a0] (AV.list 1 (r.map AV.str)) true := by
 refine FnR.of_ev (T := T) (rows := []) tOk mixed Tryz.func161 rfl (by kernel_rfl) (by kernel_rfl) rfl fun hwf => ?_
 unfold pairs_Languages at h
 refine sj <| sn <| sj <| ai rfl ?_
 refine SeqN.via (St.of [⟨0, ss a0, none⟩, ⟨3, AV.ptr 0 0, none⟩] [.cells 45 [AV.list 1 (([] : List Bytes).map AV.str)] [(0, 0)]] [1]) ?_ ?_
 ·refine Gho.to _ _ _ [1] ?_ ?_ ?_ rfl rfl ?_
  ·exact ⟨⟨rfl, rfl, rfl⟩, trivial⟩
  ·exact rfl
  ·exact rfl
  ·exact tr3 <| tr3 <| trivial
 refine sj <| bind_elim h fun x1 hx1 h => CallH.ren [0] [0] [.cells 45 [AV.list 1 (x1.2.map AV.str)] [(0, 1)]] [0, 1] (pairs_parts_pairs_Languages_1_ok E a0 ([44] : Bytes) ([] : List Bytes) x1.1 x1.2 hx1) rfl rfl rfl rfl rfl rfl rfl rfl rfl <| sn <| sj <| sn ?_
 replace h := oi h
 exact RetE.own 2 1 rfl rfl rfl rfl (ai (congrArg (fun r : (List Bytes) => AV.list 1 (r.map AV.str)) h) rfl)
theorem vars_known_4_ok (E : Pm.Env) [LaidE E] (a0 : Bytes) (c0 : S_Env) (r : (Bytes × Bool)) (h : vars_known_4 a0 c0 = some r) : FnR E Tryz.prog 160 [ss a0, AV.iptr (S_Env.cells c0)] (AV.tup [ss r.1, bb r.2]) false := by
 refine FnR.of_ev (T := T) (rows := []) tOk mixed Tryz.func160 rfl (by kernel_rfl) (by kernel_rfl) rfl fun hwf => ?_
 unfold vars_known_4 at h
 refine sj <| sn <| sj <| sj <| bind_elim h fun x1 hx1 h => CallH.data _ true rfl (pairs_Languages_ok E c0.Language x1 hx1) <| bind_elim h fun x2 hx2 h => CallH.data _ false rfl (text_Lower_ok E a0 x2 hx2) <| bind_elim h fun x3 hx3 h => CallH.data _ false rfl (slices_Contains__string_string_ok E x1 x2 x3 hx3) <| sn ?_
 refine Br.of h (fun ht h => ?_) fun ht h => ?_
 ·refine sj <| sn ?_
  replace h := oi h
  refine RetE.plain ?_
  subst h; exact ai rfl (ai rfl rfl)
 ·refine sn <| sj <| sn ?_
  replace h := oi h
  refine RetE.plain ?_
  subst h; exact ai rfl (ai rfl rfl)
theorem vars_Value_ok (E : Pm.Env) [LaidE E] (a0 : S_Env) (a1 : Bytes) (a2 : Bytes) (r : (Bytes × Bool)) (h : vars_Value a0 a1 a2 = some r) : FnR E Tryz.prog 117 [S_Env.av a0, ss a1, ss a2] (AV.tup [ss r.1, bb r.2]) false := by
 refine FnR.of_ev (T := T) (rows := []) tOk mixed Tryz.func117 rfl (by kernel_rfl) (by kernel_rfl) rfl fun hwf => ?_
 unfold vars_Value at h
 refine sj <| ai rfl <| sn <| sj <| ai ⟨lb rfl, lb rfl⟩ <| NormE.to (S_Env.av a0) (fun _ => rfl) <| bind_elim h fun x1 hx1 h => CallH.map _ rfl (vars_known_ok E a0 x1 hx1) ?_
 refine any_of h (fun m2 h => ?_) fun m2 h => ?_
 ·refine ai ⟨rfl, by kernel_rfl, rfl⟩ (xi (AV.fn 172 [] [AV.iptr [ss x1.1]]) (xi true (ai (look_hit m2) ?_)))
  refine sn <| sj <| sj <| sn ?_
  refine Br.of h (fun ht h => ?_) fun ht h => ?_
  ·refine sj ?_
   refine SeqN.via (St.of [⟨6, ss [], none⟩, ⟨7, bb false, none⟩] [] []) ?_ ?_
   ·refine Gho.to _ _ _ [] ?_ ?_ ?_ rfl rfl ?_
    ·exact trivial
    ·exact rfl
    ·exact rfl
    ·exact tr3 <| tr3 <| trivial
   replace h := oi h
   refine RetE.plain ?_
   subst h; exact ai rfl (ai rfl rfl)
  ·refine sn <| sj <| bind_elim h fun x3 hx3 h => CallH.data _ false rfl (vars_bare_1_ok E a2 x1.1 x3 hx3) ?_
   refine SeqN.via (St.of [⟨6, ss x3.1, none⟩, ⟨7, bb x3.2, none⟩] [] []) ?_ ?_
   ·refine Gho.to _ _ _ [] ?_ ?_ ?_ rfl rfl ?_
    ·exact trivial
    ·exact rfl
    ·exact rfl
    ·exact tr3 <| tr3 <| trivial
   replace h := oi h
   refine RetE.plain ?_
   subst h; exact ai rfl (ai rfl rfl)
 ·refine any_of h (fun m4 h => ?_) fun m4 h => ?_
  ·refine ai ⟨rfl, by kernel_rfl, rfl⟩ (xi (AV.fn 172 [] [AV.iptr [ss x1.2.1]]) (xi true (ai (look_miss m2 (look_hit m4)) ?_)))
   refine sn <| sj <| sj <| sn ?_
   refine Br.of h (fun ht h => ?_) fun ht h => ?_
   ·refine sj ?_
    refine SeqN.via (St.of [⟨6, ss [], none⟩, ⟨7, bb false, none⟩] [] []) ?_ ?_
    ·refine Gho.to _ _ _ [] ?_ ?_ ?_ rfl rfl ?_
     ·exact trivial
     ·exact rfl
     ·exact rfl
     ·exact tr3 <| tr3 <| trivial
    replace h := oi h
    refine RetE.plain ?_
    subst h; exact ai rfl (ai rfl rfl)
   ·refine sn <| sj <| bind_elim h fun x5 hx5 h => CallH.data _ false rfl (vars_bare_1_ok E a2 x1.2.1 x5 hx5) ?_
    refine SeqN.via (St.of [⟨6, ss x5.1, none⟩, ⟨7, bb x5.2, none⟩] [] []) ?_ ?_
    ·refine Gho.to _ _ _ [] ?_ ?_ ?_ rfl rfl ?_
     ·exact trivial
     ·exact rfl
     ·exact rfl
     ·exact tr3 <| tr3 <| trivial
    replace h := oi h
    refine RetE.plain ?_
    subst h; exact ai rfl (ai rfl rfl)
  ·refine any_of h (fun m6 h => ?_) fun m6 h => ?_
   ·refine ai ⟨rfl, by kernel_rfl, rfl⟩ (xi (AV.fn 173 [] [AV.iptr [ss x1.2.2.1.1], AV.iptr [AV.fn 150 [] [AV.iptr (S_Env.cells x1.2.2.1.2)]]]) (xi true (ai (look_miss m2 (look_miss m4 (look_hit m6))) ?_)))
    refine sn <| sj <| sj <| sn ?_
    refine Br.of h (fun ht h => ?_) fun ht h => ?_
    ·refine sj ?_
     refine SeqN.via (St.of [⟨6, ss [], none⟩, ⟨7, bb false, none⟩] [] []) ?_ ?_
     ·refine Gho.to _ _ _ [] ?_ ?_ ?_ rfl rfl ?_
      ·exact trivial
      ·exact rfl
      ·exact rfl
      ·exact tr3 <| tr3 <| trivial
     replace h := oi h
     refine RetE.plain ?_
     subst h; exact ai rfl (ai rfl rfl)
    ·refine sn <| sj <| bind_elim h fun x7 hx7 h => CallH.data _ false rfl (vars_of_1_ok E a2 x1.2.2.1.1 150 [AV.iptr (S_Env.cells x1.2.2.1.2)] (fun x0 => vars_known_1 x0 x1.2.2.1.2) (fun x0 r h => vars_known_1_ok E x0 x1.2.2.1.2 r h) rfl x7 hx7) ?_
     refine SeqN.via (St.of [⟨6, ss x7.1, none⟩, ⟨7, bb x7.2, none⟩] [] []) ?_ ?_
     ·refine Gho.to _ _ _ [] ?_ ?_ ?_ rfl rfl ?_
      ·exact trivial
      ·exact rfl
      ·exact rfl
      ·exact tr3 <| tr3 <| trivial
     replace h := oi h
     refine RetE.plain ?_
     subst h; exact ai rfl (ai rfl rfl)
   ·refine any_of h (fun m8 h => ?_) fun m8 h => ?_
    ·refine ai ⟨rfl, by kernel_rfl, rfl⟩ (xi (AV.fn 173 [] [AV.iptr [ss x1.2.2.2.1.1], AV.iptr [AV.fn 155 [] [AV.iptr (S_Env.cells x1.2.2.2.1.2)]]]) (xi true (ai (look_miss m2 (look_miss m4 (look_miss m6 (look_hit m8)))) ?_)))
     refine sn <| sj <| sj <| sn ?_
     refine Br.of h (fun ht h => ?_) fun ht h => ?_
     ·refine sj ?_
      refine SeqN.via (St.of [⟨6, ss [], none⟩, ⟨7, bb false, none⟩] [] []) ?_ ?_
      ·refine Gho.to _ _ _ [] ?_ ?_ ?_ rfl rfl ?_
       ·exact trivial
       ·exact rfl
       ·exact rfl
       ·exact tr3 <| tr3 <| trivial
      replace h := oi h
      refine RetE.plain ?_
      subst h; exact ai rfl (ai rfl rfl)
     ·refine sn <| sj <| bind_elim h fun x9 hx9 h => CallH.data _ false rfl (vars_of_1_ok E a2 x1.2.2.2.1.1 155 [AV.iptr (S_Env.cells x1.2.2.2.1.2)] (fun x0 => vars_known_2 x0 x1.2.2.2.1.2) (fun x0 r h => vars_known_2_ok E x0 x1.2.2.2.1.2 r h) rfl x9 hx9) ?_
      refine SeqN.via (St.of [⟨6, ss x9.1, none⟩, ⟨7, bb x9.2, none⟩] [] []) ?_ ?_
      ·refine Gho.to _ _ _ [] ?_ ?_ ?_ rfl rfl ?_
       ·exact trivial
       ·exact rfl
       ·exact rfl
       ·exact tr3 <| tr3 <| trivial
      replace h := oi h
      refine RetE.plain ?_
      subst h; exact ai rfl (ai rfl rfl)
    ·refine any_of h (fun m10 h => ?_) fun m10 h => ?_
     ·refine ai ⟨rfl, by kernel_rfl, rfl⟩ (xi (AV.fn 173 [] [AV.iptr [ss x1.2.2.2.2.1.1], AV.iptr [AV.fn 158 [] [AV.iptr (S_Env.cells x1.2.2.2.2.1.2)]]]) (xi true (ai (look_miss m2 (look_miss m4 (look_miss m6 (look_miss m8 (look_hit m10))))) ?_)))
      refine sn <| sj <| sj <| sn ?_
      refine Br.of h (fun ht h => ?_) fun ht h => ?_
      ·refine sj ?_
       refine SeqN.via (St.of [⟨6, ss [], none⟩, ⟨7, bb false, none⟩] [] []) ?_ ?_
       ·refine Gho.to _ _ _ [] ?_ ?_ ?_ rfl rfl ?_
        ·exact trivial
        ·exact rfl
        ·exact rfl
        ·exact tr3 <| tr3 <| trivial
       replace h := oi h
       refine RetE.plain ?_
       subst h; exact ai rfl (ai rfl rfl)
      ·refine sn <| sj <| bind_elim h fun x11 hx11 h => CallH.data _ false rfl (vars_of_1_ok E a2 x1.2.2.2.2.1.1 158 [AV.iptr (S_Env.cells x1.2.2.2.2.1.2)] (fun x0 => vars_known_3 x0 x1.2.2.2.2.1.2) (fun x0 r h => vars_known_3_ok E x0 x1.2.2.2.2.1.2 r h) rfl x11 hx11) ?_
       refine SeqN.via (St.of [⟨6, ss x11.1, none⟩, ⟨7, bb x11.2, none⟩] [] []) ?_ ?_
       ·refine Gho.to _ _ _ [] ?_ ?_ ?_ rfl rfl ?_
        ·exact trivial
        ·exact rfl
        ·exact rfl
        ·exact tr3 <| tr3 <| trivial
       replace h := oi h
       refine RetE.plain ?_
       subst h; exact ai rfl (ai rfl rfl)
     ·refine any_of h (fun m12 h => ?_) fun m12 h => ?_
      ·refine ai ⟨rfl, by kernel_rfl, rfl⟩ (xi (AV.fn 173 [] [AV.iptr [ss x1.2.2.2.2.2.1], AV.iptr [AV.fn 160 [] [AV.iptr (S_Env.cells x1.2.2.2.2.2.2)]]]) (xi true (ai (look_miss m2 (look_miss m4 (look_miss m6 (look_miss m8 (look_miss m10 (look_hit m12)))))) ?_)))
       refine sn <| sj <| sj <| sn ?_
       refine Br.of h (fun ht h => ?_) fun ht h => ?_
       ·refine sj ?_
        refine SeqN.via (St.of [⟨6, ss [], none⟩, ⟨7, bb false, none⟩] [] []) ?_ ?_
        ·refine Gho.to _ _ _ [] ?_ ?_ ?_ rfl rfl ?_
         ·exact trivial
         ·exact rfl
         ·exact rfl
         ·exact tr3 <| tr3 <| trivial
        replace h := oi h
        refine RetE.plain ?_
        subst h; exact ai rfl (ai rfl rfl)
       ·refine sn <| sj <| bind_elim h fun x13 hx13 h => CallH.data _ false rfl (vars_of_1_ok E a2 x1.2.2.2.2.2.1 160 [AV.iptr (S_Env.cells x1.2.2.2.2.2.2)] (fun x0 => vars_known_4 x0 x1.2.2.2.2.2.2) (fun x0 r h => vars_known_4_ok E x0 x1.2.2.2.2.2.2 r h) rfl x13 hx13) ?_
        refine SeqN.via (St.of [⟨6, ss x13.1, none⟩, ⟨7, bb x13.2, none⟩] [] []) ?_ ?_
        ·refine Gho.to _ _ _ [] ?_ ?_ ?_ rfl rfl ?_
         ·exact trivial
         ·exact rfl
         ·exact rfl
         ·exact tr3 <| tr3 <| trivial
        replace h := oi h
        refine RetE.plain ?_
        subst h; exact ai rfl (ai rfl rfl)
      ·refine ai ⟨rfl, by kernel_rfl, rfl⟩ (xi AV.nilf (xi false (ai (look_miss m2 (look_miss m4 (look_miss m6 (look_miss m8 (look_miss m10 (look_miss m12 look_nil)))))) ?_)))
       refine sn <| sj <| sj <| sn ?_
       refine Br.of h (fun ht h => ?_) fun ht h => ?_
       ·refine sj ?_
        refine SeqN.via (St.of [⟨6, ss [], none⟩, ⟨7, bb false, none⟩] [] []) ?_ ?_
        ·refine Gho.to _ _ _ [] ?_ ?_ ?_ rfl rfl ?_
         ·exact trivial
         ·exact rfl
         ·exact rfl
         ·exact tr3 <| tr3 <| trivial
        replace h := oi h
        refine RetE.plain ?_
        subst h; exact ai rfl (ai rfl rfl)
       ·refine sn <| sj ?_
        cases h
theorem vars_Ref_ok (E : Pm.Env) [LaidE E] (a0 : S_Env) (a1 : Bytes) (r : (Bytes × Int)) (h : vars_Ref a0 a1 = some r) : FnR E Tryz.prog 84 [S_Env.av a0, ss a1] (AV.tup [ss r.1, ii r.2]) false := by
 refine FnR.of_ev (T := T) (rows := []) tOk mixed Tryz.func84 rfl (by kernel_rfl) (by kernel_rfl) rfl fun hwf => ?_
 unfold vars_Ref at h
 refine sj <| ai rfl <| sn <| sj <| sn <| sj <| bind_elim h fun x1 hx1 h => CallH.data _ false rfl (strings_CutPrefix_ok E a1 ([36, 40] : Bytes) x1 hx1) <| sn <| sj <| bind_elim h fun x2 hx2 h => CallH.data _ false rfl (vars_run_ok E x1.1 113 [] (fun x0 => vars_letter x0) (fun x0 r h => vars_letter_ok E x0 r h) rfl x2 hx2) <| sn <| sj <| sj <| ai id <| ai (fun hg => (and_r hg)) ?_
 refine SeqN.via (St.of [⟨1, ss a1, none⟩, ⟨2, AV.ptr 0 0, none⟩, ⟨6, AV.fn 111 [] [], none⟩, ⟨7, ss x1.1, none⟩, ⟨9, ii x2, none⟩, ⟨26, bb (bif (!x1.2) then true else (x2 == (0 : Int))), none⟩] [.cells 23 (S_Env.cells a0) []] []) ?_ ?_
 ·refine Gho.to _ _ _ [] ?_ ?_ ?_ rfl rfl ?_
  ·exact ⟨⟨rfl, rfl, rfl⟩, trivial⟩
  ·exact rfl
  ·exact rfl
  ·exact tr3 <| tr3 <| tr3 <| tr3 <| tr3 <| tr3 <| trivial
 refine Br.of h (fun ht h => ?_) fun ht h => ?_
 ·refine sj <| bind_elim h fun x3 hx3 h => CallH.data _ false rfl (vars_Ref_1_ok E  x3 hx3) <| sn ?_
  replace h := oi h
  refine RetE.plain ?_
  subst h; exact ai rfl (ai rfl rfl)
 ·refine sn <| sj <| bind_elim h fun x4 hx4 h => ?_
  have qx4 := (slc_some hx4).1
  have hx4e := (slc_some hx4).2
  refine ai (fun _ => qx4) <| NormE.to (ss x4) (fun _ => congrArg ss hx4e.symm) <| sn <| sj <| bind_elim h fun x5 hx5 h => ?_
  have qx5 := (slc_some hx5).1
  have hx5e := (slc_some hx5).2
  refine ai (fun _ => qx5) <| NormE.to (ss x5) (fun _ => congrArg ss hx5e.symm) <| sn <| sj <| sj <| bind_elim h fun x6 hx6 h => CallH.data _ false rfl (strings_HasPrefix_ok E x5 ([123] : Bytes) x6 hx6) <| sn ?_
  refine Br.of h (fun ht h => ?_) fun ht h => ?_
  ·refine sj <| Or.inl <| bind_elim h fun x7 hx7 h => ?_
   have qx7 := (slc_some hx7).1
   have hx7e := (slc_some hx7).2
   refine ai (fun _ => qx7) <| NormE.to (ss x7) (fun _ => congrArg ss hx7e.symm) <| bind_elim h fun x8 hx8 h => CallH.data _ false rfl (vars_but_ok E ([125, 41, 124, 39, 10, 13] : Bytes) x8 hx8) <| bind_elim h fun x9 hx9 h => CallH.data _ false rfl (vars_run_ok E x7 133 [AV.iptr [ss x8]] (fun x0 => vars_but_1 x0 x8) (fun x0 r h => vars_but_1_ok E x0 x8 r h) rfl x9 hx9) <| ai (by kernel_rfl) ?_
   refine SeqN.via (St.of [⟨1, ss a1, none⟩, ⟨2, AV.ptr 0 0, none⟩, ⟨6, AV.fn 111 [] [], none⟩, ⟨7, ss x5, none⟩, ⟨9, ii x9, none⟩, ⟨10, ss x4, none⟩, ⟨12, ss [], none⟩] [.cells 23 (S_Env.cells a0) []] []) ?_ ?_
   ·refine Gho.to _ _ _ [] ?_ ?_ ?_ rfl rfl ?_
    ·exact ⟨⟨rfl, rfl, rfl⟩, trivial⟩
    ·exact rfl
    ·exact rfl
    ·exact tr3 <| tr3 <| tr3 <| tr3 <| tr3 <| tr3 <| tr3 <| trivial
   refine sj <| sj <| bind_elim h fun x10 hx10 h => ?_
   have qx10 := (slc_some hx10).1
   have hx10e := (slc_some hx10).2
   refine ai (fun _ => qx10) <| NormE.to (ss x10) (fun _ => congrArg ss hx10e.symm) <| sn <| sj <| ai id <| bind_elim h fun x11 hx11 h => ?_
   have qx11 := (gslc_some hx11).1
   have hx11e := (gslc_some hx11).2
   refine ai id <| ai id <| ai qx11 <| NormE.to (ss x11) (fun _ => congrArg ss hx11e.symm) <| bind_elim h fun x12 hx12 h => ai id <| ai rfl ?_
   refine CallF.mk _ false (fun hg => strings_HasPrefix_ok E x11 ([125] : Bytes) x12 (gcall_some hx12 hg)) (ai rfl ?_)
   refine ai id <| ai (fun hg => (and_r hg)) <| sn ?_
   refine Br.of h (fun ht h => ?_) fun ht h => ?_
   ·refine sj <| bind_elim h fun x13 hx13 h => CallH.data _ false rfl (vars_Ref_1_ok E  x13 hx13) ?_
    refine SeqN.via (St.of [⟨4, ss x13.1, none⟩, ⟨5, ii x13.2, none⟩] [] []) ?_ ?_
    ·refine Gho.to _ _ _ [] ?_ ?_ ?_ rfl rfl ?_
     ·exact trivial
     ·exact rfl
     ·exact rfl
     ·exact tr3 <| tr3 <| trivial
    replace h := oi h
    refine RetE.plain ?_
    subst h; exact ai rfl (ai rfl rfl)
   ·refine sn <| bind_elim h fun x14 hx14 h => ?_
    have qx14 := (slc_some hx14).1
    have hx14e := (slc_some hx14).2
    refine ai (fun _ => qx14) <| NormE.to (ss x14) (fun _ => congrArg ss hx14e.symm) ?_
    refine SeqN.via (St.of [⟨1, ss a1, none⟩, ⟨2, AV.ptr 0 0, none⟩, ⟨6, AV.fn 111 [] [], none⟩, ⟨7, ss x14, none⟩, ⟨10, ss x4, none⟩, ⟨11, ss x10, none⟩, ⟨12, ss [], none⟩] [.cells 23 (S_Env.cells a0) []] []) ?_ ?_
    ·refine Gho.to _ _ _ [] ?_ ?_ ?_ rfl rfl ?_
     ·exact ⟨⟨rfl, rfl, rfl⟩, trivial⟩
     ·exact rfl
     ·exact rfl
     ·exact tr3 <| tr3 <| tr3 <| tr3 <| tr3 <| tr3 <| tr3 <| trivial
    refine sj <| sj <| bind_elim h fun x15 hx15 h => CallH.data _ false rfl (strings_HasPrefix_ok E x14 ([124, 39] : Bytes) x15 hx15) <| sn ?_
    refine Br.of h (fun ht h => ?_) fun ht h => ?_
    ·refine sj <| bind_elim h fun x16 hx16 h => ?_
     have qx16 := (slc_some hx16).1
     have hx16e := (slc_some hx16).2
     refine ai (fun _ => qx16) <| NormE.to (ss x16) (fun _ => congrArg ss hx16e.symm) <| bind_elim h fun x17 hx17 h => CallH.data _ false rfl (strings_Cut_ok E x16 ([39] : Bytes) x17 hx17) <| sn <| sj <| sn ?_
     refine Br.of h (fun ht h => ?_) fun ht h => ?_
     ·refine sj <| bind_elim h fun x18 hx18 h => CallH.data _ false rfl (vars_Ref_1_ok E  x18 hx18) ?_
      refine SeqN.via (St.of [⟨4, ss x18.1, none⟩, ⟨5, ii x18.2, none⟩] [] []) ?_ ?_
      ·refine Gho.to _ _ _ [] ?_ ?_ ?_ rfl rfl ?_
       ·exact trivial
       ·exact rfl
       ·exact rfl
       ·exact tr3 <| tr3 <| trivial
      replace h := oi h
      refine RetE.plain ?_
      subst h; exact ai rfl (ai rfl rfl)
     ·refine sn <| sj <| sj <| bind_elim h fun x19 hx19 h => CallH.data _ false rfl (strings_HasPrefix_ok E x17.2.1 ([41] : Bytes) x19 hx19) ?_
      refine SeqN.via (St.of [⟨1, ss a1, none⟩, ⟨2, AV.ptr 0 0, none⟩, ⟨6, AV.fn 111 [] [], none⟩, ⟨7, ss x17.2.1, none⟩, ⟨10, ss x4, none⟩, ⟨11, ss x10, none⟩, ⟨12, ss x17.1, none⟩, ⟨96, bb (!x19), none⟩] [.cells 23 (S_Env.cells a0) []] []) ?_ ?_
      ·refine Gho.to _ _ _ [] ?_ ?_ ?_ rfl rfl ?_
       ·exact ⟨⟨rfl, rfl, rfl⟩, trivial⟩
       ·exact rfl
       ·exact rfl
       ·exact tr3 <| tr3 <| tr3 <| tr3 <| tr3 <| tr3 <| tr3 <| tr3 <| trivial
      refine Br.of h (fun ht h => ?_) fun ht h => ?_
      ·refine sj <| bind_elim h fun x20 hx20 h => CallH.data _ false rfl (vars_Ref_1_ok E  x20 hx20) <| sn ?_
       replace h := oi h
       refine RetE.plain ?_
       subst h; exact ai rfl (ai rfl rfl)
      ·refine sn <| sj <| ai ⟨lb rfl, lb rfl⟩ <| NormE.to (S_Env.av a0) (fun _ => rfl) <| bind_elim h fun x21 hx21 h => CallH.data _ false rfl (vars_Value_ok E a0 x4 x10 x21 hx21) <| sn <| sj <| sj <| sn ?_
       refine Br.of h (fun ht h => ?_) fun ht h => ?_
       ·refine sn <| sj <| NormE.same <| NormE.same ?_
        refine SeqN.via (St.of [⟨4, ss x17.1, none⟩, ⟨5, ii (IntKind.i64.wrap ((IntKind.i64.wrap ((a1.length : Int) - (x17.2.1.length : Int))) + (1 : Int))), none⟩] [] []) ?_ ?_
        ·refine Gho.to _ _ _ [] ?_ ?_ ?_ rfl rfl ?_
         ·exact trivial
         ·exact rfl
         ·exact rfl
         ·exact tr3 <| tr3 <| trivial
        replace h := oi h
        refine RetE.plain ?_
        subst h; exact ai rfl (ai rfl rfl)
       ·refine sn <| sj <| NormE.same <| NormE.same ?_
        refine SeqN.via (St.of [⟨4, ss x21.1, none⟩, ⟨5, ii (IntKind.i64.wrap ((IntKind.i64.wrap ((a1.length : Int) - (x17.2.1.length : Int))) + (1 : Int))), none⟩] [] []) ?_ ?_
        ·refine Gho.to _ _ _ [] ?_ ?_ ?_ rfl rfl ?_
         ·exact trivial
         ·exact rfl
         ·exact rfl
         ·exact tr3 <| tr3 <| trivial
        replace h := oi h
        refine RetE.plain ?_
        subst h; exact ai rfl (ai rfl rfl)
    ·refine sj <| bind_elim h fun x22 hx22 h => CallH.data _ false rfl (strings_HasPrefix_ok E x14 ([124] : Bytes) x22 hx22) <| sn ?_
     refine Br.of h (fun ht h => ?_) fun ht h => ?_
     ·refine sj <| Or.inl <| bind_elim h fun x23 hx23 h => ?_
      have qx23 := (slc_some hx23).1
      have hx23e := (slc_some hx23).2
      refine ai (fun _ => qx23) <| NormE.to (ss x23) (fun _ => congrArg ss hx23e.symm) <| bind_elim h fun x24 hx24 h => CallH.data _ false rfl (vars_but_ok E ([39, 41, 124, 10, 13] : Bytes) x24 hx24) <| bind_elim h fun x25 hx25 h => CallH.data _ false rfl (vars_run_ok E x23 133 [AV.iptr [ss x24]] (fun x0 => vars_but_1 x0 x24) (fun x0 r h => vars_but_1_ok E x0 x24 r h) rfl x25 hx25) <| ai (by kernel_rfl) <| sn <| Or.inl <| bind_elim h fun x26 hx26 h => ?_
      have qx26 := (slc_some hx26).1
      have hx26e := (slc_some hx26).2
      refine ai (fun _ => qx26) <| NormE.to (ss x26) (fun _ => congrArg ss hx26e.symm) <| bind_elim h fun x27 hx27 h => ?_
      have qx27 := (slc_some hx27).1
      have hx27e := (slc_some hx27).2
      refine ai (fun _ => qx27) <| NormE.to (ss x27) (fun _ => congrArg ss hx27e.symm) <| ai (by kernel_rfl) ?_
      refine SeqN.via (St.of [⟨1, ss a1, none⟩, ⟨2, AV.ptr 0 0, none⟩, ⟨6, AV.fn 111 [] [], none⟩, ⟨7, ss x27, none⟩, ⟨10, ss x4, none⟩, ⟨11, ss x10, none⟩, ⟨12, ss x26, none⟩] [.cells 23 (S_Env.cells a0) []] []) ?_ ?_
      ·refine Gho.to _ _ _ [] ?_ ?_ ?_ rfl rfl ?_
       ·exact ⟨⟨rfl, rfl, rfl⟩, trivial⟩
       ·exact rfl
       ·exact rfl
       ·exact tr3 <| tr3 <| tr3 <| tr3 <| tr3 <| tr3 <| tr3 <| trivial
      refine sj <| sj <| bind_elim h fun x28 hx28 h => CallH.data _ false rfl (strings_HasPrefix_ok E x27 ([41] : Bytes) x28 hx28) <| sn ?_
      refine Br.of h (fun ht h => ?_) fun ht h => ?_
      ·refine sj <| bind_elim h fun x29 hx29 h => CallH.data _ false rfl (vars_Ref_1_ok E  x29 hx29) <| sn ?_
       replace h := oi h
       refine RetE.plain ?_
       subst h; exact ai rfl (ai rfl rfl)
      ·refine sn <| sj <| ai ⟨lb rfl, lb rfl⟩ <| NormE.to (S_Env.av a0) (fun _ => rfl) <| bind_elim h fun x30 hx30 h => CallH.data _ false rfl (vars_Value_ok E a0 x4 x10 x30 hx30) <| sn <| sj <| sj <| sn ?_
       refine Br.of h (fun ht h => ?_) fun ht h => ?_
       ·refine SeqN.via (St.of [⟨1, ss a1, none⟩, ⟨7, ss x27, none⟩, ⟨13, ss x26, none⟩] [] []) ?_ ?_
        ·refine Gho.to _ _ _ [] ?_ ?_ ?_ rfl rfl ?_
         ·exact trivial
         ·exact rfl
         ·exact rfl
         ·exact tr3 <| tr3 <| tr3 <| trivial
        refine sj <| NormE.same <| NormE.same <| sn ?_
        replace h := oi h
        refine RetE.plain ?_
        subst h; exact ai rfl (ai rfl rfl)
       ·refine sn <| sj <| NormE.same <| NormE.same ?_
        refine SeqN.via (St.of [⟨4, ss x30.1, none⟩, ⟨5, ii (IntKind.i64.wrap ((IntKind.i64.wrap ((a1.length : Int) - (x27.length : Int))) + (1 : Int))), none⟩] [] []) ?_ ?_
        ·refine Gho.to _ _ _ [] ?_ ?_ ?_ rfl rfl ?_
         ·exact trivial
         ·exact rfl
         ·exact rfl
         ·exact tr3 <| tr3 <| trivial
        replace h := oi h
        refine RetE.plain ?_
        subst h; exact ai rfl (ai rfl rfl)
     ·refine sn <| sj <| sj <| bind_elim h fun x31 hx31 h => CallH.data _ false rfl (strings_HasPrefix_ok E x14 ([41] : Bytes) x31 hx31) <| sn ?_
      refine Br.of h (fun ht h => ?_) fun ht h => ?_
      ·refine sj <| bind_elim h fun x32 hx32 h => CallH.data _ false rfl (vars_Ref_1_ok E  x32 hx32) <| sn ?_
       replace h := oi h
       refine RetE.plain ?_
       subst h; exact ai rfl (ai rfl rfl)
      ·refine sn <| sj <| ai ⟨lb rfl, lb rfl⟩ <| NormE.to (S_Env.av a0) (fun _ => rfl) <| bind_elim h fun x33 hx33 h => CallH.data _ false rfl (vars_Value_ok E a0 x4 x10 x33 hx33) ?_
       refine SeqN.via (St.of [⟨1, ss a1, none⟩, ⟨7, ss x14, none⟩, ⟨8, bb x33.2, none⟩, ⟨12, ss [], none⟩, ⟨13, ss x33.1, none⟩] [] []) ?_ ?_
       ·refine Gho.to _ _ _ [] ?_ ?_ ?_ rfl rfl ?_
        ·exact trivial
        ·exact rfl
        ·exact rfl
        ·exact tr3 <| tr3 <| tr3 <| tr3 <| tr3 <| trivial
       refine sj <| sj <| sn ?_
       refine Br.of h (fun ht h => ?_) fun ht h => ?_
       ·refine sn <| sj <| NormE.same <| NormE.same <| sn ?_
        replace h := oi h
        refine RetE.plain ?_
        subst h; exact ai rfl (ai rfl rfl)
       ·refine sn <| sj <| NormE.same <| NormE.same <| sn ?_
        replace h := oi h
        refine RetE.plain ?_
        subst h; exact ai rfl (ai rfl rfl)
  ·refine sn <| sj <| sj <| bind_elim h fun x34 hx34 h => CallH.data _ false rfl (strings_HasPrefix_ok E x5 ([124, 39] : Bytes) x34 hx34) <| sn ?_
   refine Br.of h (fun ht h => ?_) fun ht h => ?_
   ·refine sj <| bind_elim h fun x35 hx35 h => ?_
    have qx35 := (slc_some hx35).1
    have hx35e := (slc_some hx35).2
    refine ai (fun _ => qx35) <| NormE.to (ss x35) (fun _ => congrArg ss hx35e.symm) <| bind_elim h fun x36 hx36 h => CallH.data _ false rfl (strings_Cut_ok E x35 ([39] : Bytes) x36 hx36) ?_
    refine SeqN.via (St.of [⟨1, ss a1, none⟩, ⟨2, AV.ptr 0 0, none⟩, ⟨6, AV.fn 111 [] [], none⟩, ⟨7, ss x36.2.1, none⟩, ⟨8, bb x36.2.2, none⟩, ⟨10, ss x4, none⟩, ⟨11, ss [], none⟩, ⟨12, ss x36.1, none⟩] [.cells 23 (S_Env.cells a0) []] []) ?_ ?_
    ·refine Gho.to _ _ _ [] ?_ ?_ ?_ rfl rfl ?_
     ·exact ⟨⟨rfl, rfl, rfl⟩, trivial⟩
     ·exact rfl
     ·exact rfl
     ·exact tr3 <| tr3 <| tr3 <| tr3 <| tr3 <| tr3 <| tr3 <| tr3 <| trivial
    refine sj <| sn ?_
    refine Br.of h (fun ht h => ?_) fun ht h => ?_
    ·refine sj <| bind_elim h fun x37 hx37 h => CallH.data _ false rfl (vars_Ref_1_ok E  x37 hx37) <| sn ?_
     replace h := oi h
     refine RetE.plain ?_
     subst h; exact ai rfl (ai rfl rfl)
    ·refine sn <| sj <| sj <| bind_elim h fun x38 hx38 h => CallH.data _ false rfl (strings_HasPrefix_ok E x36.2.1 ([41] : Bytes) x38 hx38) <| sn ?_
     refine Br.of h (fun ht h => ?_) fun ht h => ?_
     ·refine sj <| bind_elim h fun x39 hx39 h => CallH.data _ false rfl (vars_Ref_1_ok E  x39 hx39) <| sn ?_
      replace h := oi h
      refine RetE.plain ?_
      subst h; exact ai rfl (ai rfl rfl)
     ·refine sn <| sj <| ai ⟨lb rfl, lb rfl⟩ <| NormE.to (S_Env.av a0) (fun _ => rfl) <| bind_elim h fun x40 hx40 h => CallH.data _ false rfl (vars_Value_ok E a0 x4 ([] : Bytes) x40 hx40) <| sn <| sj <| sj ?_
      refine SeqN.via (St.of [⟨1, ss a1, none⟩, ⟨7, ss x36.2.1, none⟩, ⟨12, ss x36.1, none⟩, ⟨13, ss x40.1, none⟩, ⟨109, bb (!x40.2), none⟩] [] []) ?_ ?_
      ·refine Gho.to _ _ _ [] ?_ ?_ ?_ rfl rfl ?_
       ·exact trivial
       ·exact rfl
       ·exact rfl
       ·exact tr3 <| tr3 <| tr3 <| tr3 <| tr3 <| trivial
      refine Br.of h (fun ht h => ?_) fun ht h => ?_
      ·refine sn <| sj <| NormE.same <| NormE.same <| sn ?_
       replace h := oi h
       refine RetE.plain ?_
       subst h; exact ai rfl (ai rfl rfl)
      ·refine sn <| sj <| NormE.same <| NormE.same <| sn ?_
       replace h := oi h
       refine RetE.plain ?_
       subst h; exact ai rfl (ai rfl rfl)
   ·refine sj <| bind_elim h fun x41 hx41 h => CallH.data _ false rfl (strings_HasPrefix_ok E x5 ([124] : Bytes) x41 hx41) ?_
    refine SeqN.via (St.of [⟨1, ss a1, none⟩, ⟨2, AV.ptr 0 0, none⟩, ⟨6, AV.fn 111 [] [], none⟩, ⟨7, ss x5, none⟩, ⟨10, ss x4, none⟩, ⟨11, ss [], none⟩, ⟨12, ss [], none⟩, ⟨81, bb x41, none⟩] [.cells 23 (S_Env.cells a0) []] []) ?_ ?_
    ·refine Gho.to _ _ _ [] ?_ ?_ ?_ rfl rfl ?_
     ·exact ⟨⟨rfl, rfl, rfl⟩, trivial⟩
     ·exact rfl
     ·exact rfl
     ·exact tr3 <| tr3 <| tr3 <| tr3 <| tr3 <| tr3 <| tr3 <| tr3 <| trivial
    refine Br.of h (fun ht h => ?_) fun ht h => ?_
    ·refine sj <| Or.inl <| bind_elim h fun x42 hx42 h => ?_
     have qx42 := (slc_some hx42).1
     have hx42e := (slc_some hx42).2
     refine ai (fun _ => qx42) <| NormE.to (ss x42) (fun _ => congrArg ss hx42e.symm) <| bind_elim h fun x43 hx43 h => CallH.data _ false rfl (vars_but_ok E ([39, 41, 124, 10, 13] : Bytes) x43 hx43) <| bind_elim h fun x44 hx44 h => CallH.data _ false rfl (vars_run_ok E x42 133 [AV.iptr [ss x43]] (fun x0 => vars_but_1 x0 x43) (fun x0 r h => vars_but_1_ok E x0 x43 r h) rfl x44 hx44) <| ai (by kernel_rfl) <| sn <| Or.inl <| bind_elim h fun x45 hx45 h => ?_
     have qx45 := (slc_some hx45).1
     have hx45e := (slc_some hx45).2
     refine ai (fun _ => qx45) <| NormE.to (ss x45) (fun _ => congrArg ss hx45e.symm) <| bind_elim h fun x46 hx46 h => ?_
     have qx46 := (slc_some hx46).1
     have hx46e := (slc_some hx46).2
     refine ai (fun _ => qx46) <| NormE.to (ss x46) (fun _ => congrArg ss hx46e.symm) <| ai (by kernel_rfl) <| sn <| sj <| sj <| bind_elim h fun x47 hx47 h => CallH.data _ false rfl (strings_HasPrefix_ok E x46 ([41] : Bytes) x47 hx47) ?_
     refine SeqN.via (St.of [⟨1, ss a1, none⟩, ⟨2, AV.ptr 0 0, none⟩, ⟨6, AV.fn 111 [] [], none⟩, ⟨7, ss x46, none⟩, ⟨10, ss x4, none⟩, ⟨11, ss [], none⟩, ⟨12, ss x45, none⟩, ⟨96, bb (!x47), none⟩] [.cells 23 (S_Env.cells a0) []] []) ?_ ?_
     ·refine Gho.to _ _ _ [] ?_ ?_ ?_ rfl rfl ?_
      ·exact ⟨⟨rfl, rfl, rfl⟩, trivial⟩
      ·exact rfl
      ·exact rfl
      ·exact tr3 <| tr3 <| tr3 <| tr3 <| tr3 <| tr3 <| tr3 <| tr3 <| trivial
     refine Br.of h (fun ht h => ?_) fun ht h => ?_
     ·refine sj <| bind_elim h fun x48 hx48 h => CallH.data _ false rfl (vars_Ref_1_ok E  x48 hx48) <| sn ?_
      replace h := oi h
      refine RetE.plain ?_
      subst h; exact ai rfl (ai rfl rfl)
     ·refine sn <| sj <| ai ⟨lb rfl, lb rfl⟩ <| NormE.to (S_Env.av a0) (fun _ => rfl) <| bind_elim h fun x49 hx49 h => CallH.data _ false rfl (vars_Value_ok E a0 x4 ([] : Bytes) x49 hx49) <| sn <| sj <| sj <| sn ?_
      refine Br.of h (fun ht h => ?_) fun ht h => ?_
      ·refine sn <| sj <| NormE.same <| NormE.same ?_
       refine SeqN.via (St.of [⟨4, ss x45, none⟩, ⟨5, ii (IntKind.i64.wrap ((IntKind.i64.wrap ((a1.length : Int) - (x46.length : Int))) + (1 : Int))), none⟩] [] []) ?_ ?_
       ·refine Gho.to _ _ _ [] ?_ ?_ ?_ rfl rfl ?_
        ·exact trivial
        ·exact rfl
        ·exact rfl
        ·exact tr3 <| tr3 <| trivial
       replace h := oi h
       refine RetE.plain ?_
       subst h; exact ai rfl (ai rfl rfl)
      ·refine sn <| sj <| NormE.same <| NormE.same ?_
       refine SeqN.via (St.of [⟨4, ss x49.1, none⟩, ⟨5, ii (IntKind.i64.wrap ((IntKind.i64.wrap ((a1.length : Int) - (x46.length : Int))) + (1 : Int))), none⟩] [] []) ?_ ?_
       ·refine Gho.to _ _ _ [] ?_ ?_ ?_ rfl rfl ?_
        ·exact trivial
        ·exact rfl
        ·exact rfl
        ·exact tr3 <| tr3 <| trivial
       replace h := oi h
       refine RetE.plain ?_
       subst h; exact ai rfl (ai rfl rfl)
    ·refine sn <| sj <| sj <| bind_elim h fun x50 hx50 h => CallH.data _ false rfl (strings_HasPrefix_ok E x5 ([41] : Bytes) x50 hx50) <| sn ?_
     refine Br.of h (fun ht h => ?_) fun ht h => ?_
     ·refine sj <| bind_elim h fun x51 hx51 h => CallH.data _ false rfl (vars_Ref_1_ok E  x51 hx51) <| sn ?_
      replace h := oi h
      refine RetE.plain ?_
      subst h; exact ai rfl (ai rfl rfl)
     ·refine sn <| sj <| ai ⟨lb rfl, lb rfl⟩ <| NormE.to (S_Env.av a0) (fun _ => rfl) <| bind_elim h fun x52 hx52 h => CallH.data _ false rfl (vars_Value_ok E a0 x4 ([] : Bytes) x52 hx52) <| sn <| sj <| sj <| sn ?_
      refine Br.of h (fun ht h => ?_) fun ht h => ?_
      ·refine SeqN.via (St.of [⟨1, ss a1, none⟩, ⟨7, ss x5, none⟩, ⟨13, ss [], none⟩] [] []) ?_ ?_
       ·refine Gho.to _ _ _ [] ?_ ?_ ?_ rfl rfl ?_
        ·exact trivial
        ·exact rfl
        ·exact rfl
        ·exact tr3 <| tr3 <| tr3 <| trivial
       refine sj <| NormE.same <| NormE.same <| sn ?_
       replace h := oi h
       refine RetE.plain ?_
       subst h; exact ai rfl (ai rfl rfl)
      ·refine sn <| sj <| NormE.same <| NormE.same ?_
       refine SeqN.via (St.of [⟨4, ss x52.1, none⟩, ⟨5, ii (IntKind.i64.wrap ((IntKind.i64.wrap ((a1.length : Int) - (x5.length : Int))) + (1 : Int))), none⟩] [] []) ?_ ?_
       ·refine Gho.to _ _ _ [] ?_ ?_ ?_ rfl rfl ?_
        ·exact trivial
        ·exact rfl
        ·exact rfl
        ·exact tr3 <| tr3 <| trivial
       replace h := oi h
       refine RetE.plain ?_
       subst h; exact ai rfl (ai rfl rfl)
theorem stringslite_TrimPrefix_ok (E : Pm.Env) [LaidE E] (a0 : Bytes) (a1 : Bytes) (r : Bytes) (h : stringslite_TrimPrefix a0 a1 = some r) : FnR E Tryz.prog 136 [ss a0, ss a1] (ss r) false := by
 refine FnR.of_ev (T := T) (rows := []) tOk mixed Tryz.func136 rfl (by kernel_rfl) (by kernel_rfl) rfl fun hwf => ?_
 unfold stringslite_TrimPrefix at h
 refine sj <| sn <| sj <| sj <| bind_elim h fun x1 hx1 h => CallH.data _ false rfl (stringslite_HasPrefix_ok E a0 a1 x1 hx1) <| sn ?_
 refine Br.of h (fun ht h => ?_) fun ht h => ?_
 ·refine sj <| NormE.same <| bind_elim h fun x2 hx2 h => ?_
  have qx2 := (slc_some hx2).1
  have hx2e := (slc_some hx2).2
  refine ai (fun _ => qx2) <| NormE.to (ss x2) (fun _ => congrArg ss hx2e.symm) <| sn ?_
  replace h := oi h
  refine RetE.plain ?_
  subst h; exact ai rfl (ai rfl rfl)
 ·refine sn <| sj <| sn ?_
  replace h := oi h
  refine RetE.plain ?_
  subst h; exact ai rfl (ai rfl rfl)
theorem strings_TrimPrefix_ok (E : Pm.Env) [LaidE E] (a0 : Bytes) (a1 : Bytes) (r : Bytes) (h : strings_TrimPrefix a0 a1 = some r) : FnR E Tryz.prog 118 [ss a0, ss a1] (ss r) false := by
 refine FnR.of_ev (T := T) (rows := []) tOk mixed Tryz.func118 rfl (by kernel_rfl) (by kernel_rfl) rfl fun hwf => ?_
 unfold strings_TrimPrefix at h
 refine sj <| sn <| sj <| bind_elim h fun x1 hx1 h => CallH.data _ false rfl (stringslite_TrimPrefix_ok E a0 a1 x1 hx1) <| sn ?_
 replace h := oi h
 refine RetE.plain ?_
 subst h; exact ai rfl (ai rfl rfl)
theorem number_read_int64_ok (E : Pm.Env) [LaidE E] (a0 : Bytes) (a1 : Int) (a2 : FuncId) (a2c : List AV) (a2i : Int → Option Int) (a2h : ∀ (x0 : Int) (r : Int), a2i x0 = some r → FnR E Tryz.prog a2 ([AV.int .u8 x0] ++ a2c) (ii r) false) (a2p : a2c.all AV.puB = true) (r : (Int × Int)) (h : number_read_int64 a0 a1 a2i = some r) : FnR E Tryz.prog 108 [ss a0, ii a1, AV.fn a2 [] a2c] (AV.tup [ii r.1, ii r.2]) false := by
 refine FnR.of_ev (T := T) (rows := []) tOk mixed Tryz.func108 rfl (by kernel_rfl) (by kernel_rfl) rfl fun hwf => ?_
 unfold number_read_int64 at h
 refine sj <| sn <| sj <| sj <| sn ?_
 refine Br.of h (fun ht h => ?_) fun ht h => ?_
 ·refine sj <| sn ?_
  replace h := oi h
  refine RetE.plain ?_
  subst h; exact ai rfl (ai rfl rfl)
 ·refine sn <| sj <| sn <| sj <| sj <| NormE.same <| sn ?_
  refine LoopE.img (fun x : (Int × Bool × Int) => St.of [⟨0, ss a0, none⟩, ⟨1, ii a1, none⟩, ⟨2, AV.fn a2 [] a2c, none⟩, ⟨8, ii x.1, none⟩, ⟨9, bb x.2.1, none⟩, ⟨16, ii (a0.length : Int), none⟩, ⟨17, ii x.2.2, none⟩] [] []) (number_read_int64_b1 a0 a1 a2i) ((0 : Int), false, (0 : Int)) h ?_ ?_
  ·refine Gho.to _ _ _ [] ?_ ?_ ?_ rfl rfl ?_
   ·exact trivial
   ·exact rfl
   ·exact rfl
   ·exact ⟨rfl, rfl, trivial, rfl, rfl, trivial, rfl, (noB_fn a2p _), trivial, rfl, rfl, trivial, rfl, rfl, trivial, rfl, rfl, trivial, rfl, rfl, trivial, trivial⟩
  intro n1 x y1 h hl1 hr1
  obtain ⟨s1, s2, s3⟩ := x
  unfold number_read_int64_b1 at h
  dsimp only at h
  refine sj <| sn <| sj ?_
  refine Br.of h (fun ht h => ?_) fun ht h => ?_
  ·refine sn <| sj <| sj <| sn <| sj <| bind_elim h fun x4 hx4 h => ?_
   refine xi x4 (ai (fun hg => idx_some hx4) ?_)
   refine bind_elim h fun x5 hx5 h => CallH.data _ false (puD_app rfl (puD_of a2p)) (a2h (x4.toNat : Int) x5 hx5) <| sn <| sj <| sj <| sn ?_
   refine Br.of h (fun ht h => ?_) fun ht h => ?_
   ·refine sj <| sn ?_
    replace h := oi h
    replace h := hr1 _ h.symm
    refine RetE.plain ?_
    subst h; exact ai rfl (ai rfl rfl)
   ·refine sn <| sj ?_
    refine SeqN.via (St.of [⟨0, ss a0, none⟩, ⟨1, ii a1, none⟩, ⟨2, AV.fn a2 [] a2c, none⟩, ⟨8, ii (IntKind.i64.wrap ((IntKind.i64.wrap (s1 * a1)) + x5)), none⟩, ⟨9, bb s2, none⟩, ⟨16, ii (a0.length : Int), none⟩, ⟨17, ii s3, none⟩] [] []) ?_ ?_
    ·refine Gho.to _ _ _ [] ?_ ?_ ?_ rfl rfl ?_
     ·exact trivial
     ·exact rfl
     ·exact rfl
     ·exact ⟨rfl, rfl, trivial, rfl, rfl, trivial, rfl, (noB_fn a2p _), trivial, rfl, rfl, trivial, rfl, rfl, trivial, rfl, rfl, trivial, rfl, rfl, trivial, trivial⟩
    refine sj <| sn ?_
    refine Br.of h (fun ht h => ?_) fun ht h => ?_
    ·refine sn ?_
     replace h := oi h
     refine xi ⟨(n1, ((0 : Int), true, (IntKind.i64.wrap (s3 + (1 : Int))))), hl1 _ h.symm⟩ (ai (Nat.lt_succ_self _) ?_)
     refine Gho.to _ _ _ [] ?_ ?_ ?_ rfl rfl ?_
     ·exact trivial
     ·exact rfl
     ·exact rfl
     ·exact ⟨rfl, rfl, trivial, rfl, rfl, trivial, rfl, (noB_fn a2p _), trivial, rfl, rfl, trivial, rfl, rfl, trivial, rfl, rfl, trivial, rfl, rfl, trivial, trivial⟩
    ·refine sn ?_
     replace h := oi h
     refine xi ⟨(n1, ((IntKind.i64.wrap ((IntKind.i64.wrap (s1 * a1)) + x5)), s2, (IntKind.i64.wrap (s3 + (1 : Int))))), hl1 _ h.symm⟩ (ai (Nat.lt_succ_self _) ?_)
     refine Gho.to _ _ _ [] ?_ ?_ ?_ rfl rfl ?_
     ·exact trivial
     ·exact rfl
     ·exact rfl
     ·exact ⟨rfl, rfl, trivial, rfl, rfl, trivial, rfl, (noB_fn a2p _), trivial, rfl, rfl, trivial, rfl, rfl, trivial, rfl, rfl, trivial, rfl, rfl, trivial, trivial⟩
  ·refine sn <| sj <| sj <| sn ?_
   refine Br.of h (fun ht h => ?_) fun ht h => ?_
   ·refine sj <| sn ?_
    replace h := oi h
    replace h := hr1 _ h.symm
    refine RetE.plain ?_
    subst h; exact ai rfl (ai rfl rfl)
   ·refine sn <| sj <| sn ?_
    replace h := oi h
    replace h := hr1 _ h.symm
    refine RetE.plain ?_
    subst h; exact ai rfl (ai rfl rfl)
theorem number_Signed_1_ok (E : Pm.Env) [LaidE E] (a0 : Int) (r : Int) (h : number_Signed_1 a0 = some r) : FnR E Tryz.prog 109 [AV.int .u8 a0] (ii r) false := by
 refine FnR.of_ev (T := T) (rows := []) tOk mixed Tryz.func109 rfl (by kernel_rfl) (by kernel_rfl) rfl fun hwf => ?_
 unfold number_Signed_1 at h
 refine sj <| sn <| sj <| sn ?_
 replace h := oi h
 refine RetE.plain ?_
 subst h; exact ai rfl (ai rfl rfl)
theorem number_Signed_ok (E : Pm.Env) [LaidE E] (a0 : Bytes) (r : (Int × Int)) (h : number_Signed a0 = some r) : FnR E Tryz.prog 82 [ss a0] (AV.tup [ii r.1, ii r.2]) false := by
 refine FnR.of_ev (T := T) (rows := []) tOk mixed Tryz.func82 rfl (by kernel_rfl) (by kernel_rfl) rfl fun hwf => ?_
 unfold number_Signed at h
 refine sj <| sn <| sj <| bind_elim h fun x1 hx1 h => CallH.data _ false rfl (strings_CutPrefix_ok E a0 ([45] : Bytes) x1 hx1) <| sn <| sj <| bind_elim h fun x2 hx2 h => CallH.data _ false rfl (number_read_int64_ok E x1.1 (10 : Int) 109 [] (fun x0 => number_Signed_1 x0) (fun x0 r h => number_Signed_1_ok E x0 r h) rfl x2 hx2) ?_
 refine SeqN.via (St.of [⟨5, bb x1.2, none⟩, ⟨6, ii x2.1, none⟩, ⟨7, ii x2.2, none⟩] [] []) ?_ ?_
 ·refine Gho.to _ _ _ [] ?_ ?_ ?_ rfl rfl ?_
  ·exact trivial
  ·exact rfl
  ·exact rfl
  ·exact tr3 <| tr3 <| tr3 <| trivial
 refine sj <| sj <| sn ?_
 refine Br.of h (fun ht h => ?_) fun ht h => ?_
 ·refine sn <| sj <| sn ?_
  replace h := oi h
  refine RetE.plain ?_
  subst h; exact ai rfl (ai rfl rfl)
 ·refine sn <| sj <| sn ?_
  replace h := oi h
  refine RetE.plain ?_
  subst h; exact ai rfl (ai rfl rfl)
theorem expr_parser_simple_ok (E : Pm.Env) [LaidE E] (o0 : S_expr_parser) (r : S_Expr) (o0' : S_expr_parser) (h : expr_parser_simple o0 = some (r, o0')) : FnW E Tryz.prog 89 [AV.ptr 0 0] [.cells 72 (S_expr_parser.cells o0) []] [] (S_Expr.av r) none [.cells 72 (S_expr_parser.cells o0') []] [] := by
 refine FnW.of_evB (T := T) (rows := []) tOk mixed Tryz.func89 rfl (by kernel_rfl) (by kernel_rfl) rfl rfl fun hwf => ?_
 unfold expr_parser_simple at h
 refine sj <| ai rfl <| sn <| sj <| bind_elim h fun x1 hx1 h => CallH.ren [0] [] [.cells 72 (S_expr_parser.cells x1.2) [], .cells 26 [ii 0, ii 0, ss [], ss [], AV.list 5 (([] : List S_Expr).map S_Expr.avR)] [(4, 0)]] [2] (expr_parser_blanks_ok E o0 x1.1 x1.2 hx1) rfl rfl rfl rfl rfl rfl rfl rfl rfl <| sn <| sj <| sj <| bind_elim h fun x2 hx2 h => CallH.data _ false rfl (strings_CutPrefix_ok E x1.2.s ([39] : Bytes) x2 hx2) <| sn <| sj <| sn ?_
 refine Br.of h (fun ht h => ?_) fun ht h => ?_
 ·refine sj <| bind_elim h fun x3 hx3 h => CallH.data _ false rfl (strings_Cut_ok E x2.1 ([39] : Bytes) x3 hx3) ?_
  refine SeqN.via (St.of [⟨0, AV.ptr 0 0, none⟩, ⟨2, AV.ptr 1 0, none⟩, ⟨5, ss x3.1, none⟩, ⟨6, ss x3.2.1, none⟩, ⟨7, bb x3.2.2, none⟩] [.cells 72 (S_expr_parser.cells x1.2) [], .cells 26 [ii 0, ii 0, ss [], ss [], AV.list 5 (([] : List S_Expr).map S_Expr.avR)] [(4, 0)]] [1]) ?_ ?_
  ·refine Gho.to _ _ _ [0] ?_ ?_ ?_ rfl rfl ?_
   ·exact ⟨⟨rfl, rfl, rfl⟩, ⟨⟨rfl, rfl, rfl⟩, trivial⟩⟩
   ·exact rfl
   ·exact rfl
   ·exact tr3 <| tr3 <| tr3 <| tr3 <| tr3 <| trivial
  refine sj <| sj <| sn ?_
  refine Br.of h (fun ht h => ?_) fun ht h => ?_
  ·refine sj <| bind_elim h fun x4 hx4 h => CallH.ren [0] [] [.cells 72 (S_expr_parser.cells x4.2) [], .cells 26 [ii 0, ii 0, ss [], ss [], AV.list 5 (([] : List S_Expr).map S_Expr.avR)] [(4, 0)]] [1] (expr_parser_fail_ok E x1.2 x4.1 x4.2 hx4) rfl rfl rfl rfl rfl rfl rfl rfl rfl ?_
   refine ai ⟨rfl, rfl, rfl, lb rfl⟩ (xi (S_Expr.cells x4.1) (ai (fun _ => rfl) ?_))
   refine sn ?_
   replace h := oi h
   have h0 := (Prod.mk.inj h).1
   have h1 := (Prod.mk.inj h).2
   subst h0
   subst h1
   refine xi [⟨2, AV.ptr 1 0, none⟩] (xi [.cells 72 (S_expr_parser.cells x4.2) [], .cells 26 (S_Expr.cells x4.1) []] (ai rfl (ai (Gho.to _ _ _ [] ?_ ?_ ?_ rfl rfl ?_) (ai ?_ rfl))))
   ·exact ⟨⟨rfl, rfl, rfl⟩, ⟨⟨rfl, rfl, rfl⟩, trivial⟩⟩
   ·exact rfl
   ·exact rfl
   ·exact tr3 <| trivial
   ·refine ai ⟨lb rfl, lb rfl⟩ (xi (S_Expr.av x4.1) (ai rfl ?_))
    exact rfl
  ·refine sn <| sj ?_
   refine ai ⟨rfl, rfl, rfl, lb rfl⟩ (xi [ss x3.2.1, bb x1.2.bad] (ai (fun _ => rfl) ?_))
   refine sn <| sj <| ai ⟨rfl, rfl, lb rfl⟩ <| ai ⟨rfl, rfl, lb rfl⟩ ?_
   refine xi (some 26) (ai (okM.mk (show (26 : Nat) = freeM T _ _ _ from by kernel_rfl)) ?_)
   refine ai ⟨rfl, rfl, rfl, lb rfl⟩ (xi [ii 2, ii 0, ss x3.1, ss [], AV.list 5 (([] : List S_Expr).map S_Expr.avR)] (ai (fun _ => rfl) ?_))
   refine sn ?_
   replace h := oi h
   have h0 := (Prod.mk.inj h).1
   have h1 := (Prod.mk.inj h).2
   subst h0
   subst h1
   refine xi [⟨2, AV.ptr 1 0, none⟩] (xi [.cells 72 [ss x3.2.1, bb x1.2.bad] [], .cells 26 [ii 2, ii 0, ss x3.1, ss [], AV.list 5 (([] : List S_Expr).map S_Expr.avR)] []] (ai rfl (ai (Gho.to _ _ _ [] ?_ ?_ ?_ rfl rfl ?_) (ai ?_ rfl))))
   ·exact ⟨⟨rfl, rfl, rfl⟩, ⟨⟨rfl, rfl, rfl⟩, trivial⟩⟩
   ·exact rfl
   ·exact rfl
   ·exact tr3 <| trivial
   ·refine ai ⟨lb rfl, lb rfl⟩ (xi (AV.agg [ii 2, ii 0, ss x3.1, ss [], AV.list 5 (([] : List S_Expr).map S_Expr.avR)]) (ai rfl ?_))
    exact rfl
 ·refine sn <| sj <| sj ?_
  refine xi none (ai trivial ?_)
  refine bind_elim h fun x5 hx5 h => CallH.data _ false rfl (vars_Ref_ok E (S_Env.mk ([] : Bytes) ([] : Bytes) ([] : Bytes) ([] : Bytes) ([] : Bytes) ([] : Bytes)) x1.2.s x5 hx5) ?_
  refine SeqN.via (St.of [⟨0, AV.ptr 0 0, none⟩, ⟨2, AV.ptr 1 0, none⟩, ⟨9, ii x5.2, none⟩] [.cells 72 (S_expr_parser.cells x1.2) [], .cells 26 [ii 0, ii 0, ss [], ss [], AV.list 5 (([] : List S_Expr).map S_Expr.avR)] [(4, 0)]] [1]) ?_ ?_
  ·refine Gho.to _ _ _ [0] ?_ ?_ ?_ rfl rfl ?_
   ·exact ⟨⟨rfl, rfl, rfl⟩, ⟨⟨rfl, rfl, rfl⟩, trivial⟩⟩
   ·exact rfl
   ·exact rfl
   ·exact tr3 <| tr3 <| tr3 <| trivial
  refine sj <| sn ?_
  refine Br.of h (fun ht h => ?_) fun ht h => ?_
  ·refine sj <| bind_elim h fun x6 hx6 h => ?_
   have qx6 := (slc_some hx6).1
   have hx6e := (slc_some hx6).2
   refine ai (fun _ => qx6) <| NormE.to (ss x6) (fun _ => congrArg ss hx6e.symm) <| ai ⟨rfl, rfl, lb rfl⟩ <| ai ⟨rfl, rfl, lb rfl⟩ ?_
   refine xi (some 26) (ai (okM.mk (show (26 : Nat) = freeM T _ _ _ from by kernel_rfl)) ?_)
   refine ai rfl ?_
   refine ai ⟨rfl, rfl, rfl, lb rfl⟩ (xi [ii 3, ii 0, ss x6, ss [], AV.list 5 (([] : List S_Expr).map S_Expr.avR)] (ai (fun _ => rfl) ?_))
   refine sn <| sj <| bind_elim h fun x7 hx7 h => ?_
   have qx7 := (slc_some hx7).1
   have hx7e := (slc_some hx7).2
   refine ai (fun _ => qx7) <| NormE.to (ss x7) (fun _ => congrArg ss hx7e.symm) ?_
   refine ai ⟨rfl, rfl, rfl, lb rfl⟩ (xi [ss x7, bb x1.2.bad] (ai (fun _ => rfl) ?_))
   refine SeqN.via (St.of [⟨2, AV.ptr 1 0, none⟩, ⟨10, AV.ptr 2 0, none⟩] [.cells 72 [ss x7, bb x1.2.bad] [], .cells 26 [ii 0, ii 0, ss [], ss [], AV.list 5 (([] : List S_Expr).map S_Expr.avR)] [(4, 0)], .cells 26 [ii 3, ii 0, ss x6, ss [], AV.list 5 (([] : List S_Expr).map S_Expr.avR)] [(4, 1)]] [1, 1]) ?_ ?_
   ·refine Gho.to _ _ _ [0, 2] ?_ ?_ ?_ rfl rfl ?_
    ·exact ⟨⟨rfl, rfl, rfl⟩, ⟨⟨rfl, rfl, rfl⟩, ⟨⟨rfl, rfl, rfl⟩, trivial⟩⟩⟩
    ·exact rfl
    ·exact rfl
    ·exact tr3 <| tr3 <| trivial
   refine sj <| ai ⟨lb rfl, lb rfl⟩ <| NormE.to (AV.agg [ii 3, ii 0, ss x6, ss [], AV.list 5 (([] : List S_Expr).map S_Expr.avR)]) (fun _ => rfl) ?_
   refine ai ⟨rfl, rfl, rfl, lb rfl⟩ (xi [ii 3, ii 0, ss x6, ss [], AV.list 5 (([] : List S_Expr).map S_Expr.avR)] (ai (fun _ => rfl) ?_))
   refine sn ?_
   replace h := oi h
   have h0 := (Prod.mk.inj h).1
   have h1 := (Prod.mk.inj h).2
   subst h0
   subst h1
   refine xi [⟨2, AV.ptr 1 0, none⟩] (xi [.cells 72 [ss x7, bb x1.2.bad] [], .cells 26 [ii 3, ii 0, ss x6, ss [], AV.list 5 (([] : List S_Expr).map S_Expr.avR)] []] (ai rfl (ai (Gho.to _ _ _ [] ?_ ?_ ?_ rfl rfl ?_) (ai ?_ rfl))))
   ·exact ⟨⟨rfl, rfl, rfl⟩, ⟨⟨rfl, rfl, rfl⟩, trivial⟩⟩
   ·exact rfl
   ·exact rfl
   ·exact tr3 <| trivial
   ·refine ai ⟨lb rfl, lb rfl⟩ (xi (AV.agg [ii 3, ii 0, ss x6, ss [], AV.list 5 (([] : List S_Expr).map S_Expr.avR)]) (ai rfl ?_))
    exact rfl
  ·refine sn <| sj <| bind_elim h fun x8 hx8 h => CallH.data _ false rfl (strings_TrimPrefix_ok E x1.2.s ([45] : Bytes) x8 hx8) <| sn <| sj <| bind_elim h fun x9 hx9 h => CallH.data _ false rfl (strings_TrimLeft_ok E x8 ([48, 49, 50, 51, 52, 53, 54, 55, 56, 57] : Bytes) x9 hx9) <| sn <| sj <| Or.inl <| NormE.same <| NormE.same <| bind_elim h fun x10 hx10 h => ?_
   have qx10 := (slc_some hx10).1
   have hx10e := (slc_some hx10).2
   refine ai (fun _ => qx10) <| NormE.to (ss x10) (fun _ => congrArg ss hx10e.symm) <| bind_elim h fun x11 hx11 h => CallH.data _ false rfl (number_Signed_ok E x10 x11 hx11) <| ai (by kernel_rfl) ?_
   refine SeqN.via (St.of [⟨0, AV.ptr 0 0, none⟩, ⟨2, AV.ptr 1 0, none⟩, ⟨12, ss x9, none⟩, ⟨13, ii x11.1, none⟩, ⟨14, ii x11.2, none⟩] [.cells 72 (S_expr_parser.cells x1.2) [], .cells 26 [ii 0, ii 0, ss [], ss [], AV.list 5 (([] : List S_Expr).map S_Expr.avR)] [(4, 0)]] [1]) ?_ ?_
   ·refine Gho.to _ _ _ [0] ?_ ?_ ?_ rfl rfl ?_
    ·exact ⟨⟨rfl, rfl, rfl⟩, ⟨⟨rfl, rfl, rfl⟩, trivial⟩⟩
    ·exact rfl
    ·exact rfl
    ·exact tr3 <| tr3 <| tr3 <| tr3 <| tr3 <| trivial
   refine sj <| sj <| sn ?_
   refine Br.of h (fun ht h => ?_) fun ht h => ?_
   ·refine sj <| bind_elim h fun x12 hx12 h => CallH.ren [0] [] [.cells 72 (S_expr_parser.cells x12.2) [], .cells 26 [ii 0, ii 0, ss [], ss [], AV.list 5 (([] : List S_Expr).map S_Expr.avR)] [(4, 0)]] [1] (expr_parser_fail_ok E x1.2 x12.1 x12.2 hx12) rfl rfl rfl rfl rfl rfl rfl rfl rfl ?_
    refine ai ⟨rfl, rfl, rfl, lb rfl⟩ (xi (S_Expr.cells x12.1) (ai (fun _ => rfl) ?_))
    refine sn ?_
    replace h := oi h
    have h0 := (Prod.mk.inj h).1
    have h1 := (Prod.mk.inj h).2
    subst h0
    subst h1
    refine xi [⟨2, AV.ptr 1 0, none⟩] (xi [.cells 72 (S_expr_parser.cells x12.2) [], .cells 26 (S_Expr.cells x12.1) []] (ai rfl (ai (Gho.to _ _ _ [] ?_ ?_ ?_ rfl rfl ?_) (ai ?_ rfl))))
    ·exact ⟨⟨rfl, rfl, rfl⟩, ⟨⟨rfl, rfl, rfl⟩, trivial⟩⟩
    ·exact rfl
    ·exact rfl
    ·exact tr3 <| trivial
    ·refine ai ⟨lb rfl, lb rfl⟩ (xi (S_Expr.av x12.1) (ai rfl ?_))
     exact rfl
   ·refine sn <| sj ?_
    refine ai ⟨rfl, rfl, rfl, lb rfl⟩ (xi [ss x9, bb x1.2.bad] (ai (fun _ => rfl) ?_))
    refine sn <| sj <| ai ⟨rfl, rfl, lb rfl⟩ <| ai ⟨rfl, rfl, lb rfl⟩ ?_
    refine xi (some 28) (ai (okM.mk (show (28 : Nat) = freeM T _ _ _ from by kernel_rfl)) ?_)
    refine ai ⟨rfl, rfl, rfl, lb rfl⟩ (xi [ii 1, ii x11.1, ss [], ss [], AV.list 5 (([] : List S_Expr).map S_Expr.avR)] (ai (fun _ => rfl) ?_))
    refine sn ?_
    replace h := oi h
    have h0 := (Prod.mk.inj h).1
    have h1 := (Prod.mk.inj h).2
    subst h0
    subst h1
    refine xi [⟨2, AV.ptr 1 0, none⟩] (xi [.cells 72 [ss x9, bb x1.2.bad] [], .cells 26 [ii 1, ii x11.1, ss [], ss [], AV.list 5 (([] : List S_Expr).map S_Expr.avR)] []] (ai rfl (ai (Gho.to _ _ _ [] ?_ ?_ ?_ rfl rfl ?_) (ai ?_ rfl))))
    ·exact ⟨⟨rfl, rfl, rfl⟩, ⟨⟨rfl, rfl, rfl⟩, trivial⟩⟩
    ·exact rfl
    ·exact rfl
    ·exact tr3 <| trivial
    ·refine ai ⟨lb rfl, lb rfl⟩ (xi (AV.agg [ii 1, ii x11.1, ss [], ss [], AV.list 5 (([] : List S_Expr).map S_Expr.avR)]) (ai rfl ?_))
     exact rfl
theorem expr_signs_ok (E : Pm.Env) [LaidE E] (r : (List Bytes)) (h : expr_signs = some r) : FnR E Tryz.prog 74 [] (AV.list 1 (r.map AV.str)) true := by
 refine FnR.of_ev (T := T) (rows := []) tOk mixed Tryz.func74 rfl (by kernel_rfl) (by kernel_rfl) rfl fun hwf => ?_
 unfold expr_signs at h
 refine sj <| sn <| sj <| ai ⟨rfl, rfl, rfl, rfl⟩ <| ai ⟨rfl, rfl, rfl, rfl⟩ <| ai ⟨rfl, rfl, rfl, rfl⟩ <| ai ⟨rfl, rfl, rfl, rfl⟩ <| ai ⟨rfl, rfl, rfl, rfl⟩ <| ai ⟨rfl, rfl, rfl, rfl⟩ <| ai ⟨rfl, rfl, rfl⟩ <| NormE.to (AV.list 1 (([([61, 61] : Bytes), ([33, 61] : Bytes), ([60, 61] : Bytes), ([62, 61] : Bytes), ([60] : Bytes), ([62] : Bytes)] : List Bytes).map AV.str)) (fun _ => rfl) <| sn ?_
 replace h := oi h
 exact RetE.own 0 1 rfl rfl rfl rfl (ai (congrArg (fun r : (List Bytes) => AV.list 1 (r.map AV.str)) h) rfl)
theorem expr_parser_sign_ok (E : Pm.Env) [LaidE E] (o0 : S_expr_parser) (r : Bytes) (o0' : S_expr_parser) (h : expr_parser_sign o0 = some (r, o0')) : FnW E Tryz.prog 90 [AV.ptr 0 0] [.cells 72 (S_expr_parser.cells o0) []] [] (ss r) none [.cells 72 (S_expr_parser.cells o0') []] [] := by
 refine FnW.of_evB (T := T) (rows := []) tOk mixed Tryz.func90 rfl (by kernel_rfl) (by kernel_rfl) rfl rfl fun hwf => ?_
 unfold expr_parser_sign at h
 refine sj <| sn <| sj <| sj <| bind_elim h fun x1 hx1 h => CallH.data _ true rfl (expr_signs_ok E  x1 hx1) <| NormE.to (ii (x1.length : Int)) (fun _ => len_list ss x1) <| sn ?_
 refine LoopE.img (fun x : (Int × S_expr_parser) => St.of [⟨0, AV.ptr 0 0, none⟩, ⟨5, AV.list 1 (x1.map AV.str), some 0⟩, ⟨6, ii (x1.length : Int), none⟩, ⟨7, ii x.1, none⟩] [.cells 72 (S_expr_parser.cells x.2) []] [1]) (expr_parser_sign_b1 x1) ((0 : Int), o0) h ?_ ?_
 ·refine Gho.to _ _ _ [0] ?_ ?_ ?_ rfl rfl ?_
  ·exact ⟨⟨rfl, rfl, rfl⟩, trivial⟩
  ·exact rfl
  ·exact rfl
  ·exact ⟨rfl, rfl, trivial, rfl, rfl, ⟨rfl, rfl, rfl⟩, rfl, rfl, trivial, rfl, rfl, trivial, trivial⟩
 intro n1 x y1 h hl1 hr1
 obtain ⟨s2, s3⟩ := x
 unfold expr_parser_sign_b1 at h
 dsimp only at h
 refine sj <| sn <| sj ?_
 refine Br.of h (fun ht h => ?_) fun ht h => ?_
 ·refine sn <| sj <| sj <| bind_elim h fun x4 hx4 h => ?_
  refine ai rfl (xi (ss x4) (ai (fun hg => idx_map _ hx4) ?_))
  refine sn <| sj <| bind_elim h fun x5 hx5 h => CallH.ren [0] [] [.cells 72 (S_expr_parser.cells x5.2) []] [1] (expr_parser_eat_ok E s3 x4 x5.1 x5.2 hx5) rfl rfl rfl rfl rfl rfl rfl rfl rfl <| sn ?_
  refine Br.of h (fun ht h => ?_) fun ht h => ?_
  ·refine sj <| sn ?_
   replace h := oi h
   replace h := hr1 _ h.symm
   have h0 := (Prod.mk.inj h).1
   have h1 := (Prod.mk.inj h).2
   subst h0
   subst h1
   refine xi [⟨2, ss x4, none⟩] (xi [.cells 72 (S_expr_parser.cells x5.2) []] (ai rfl (ai (Gho.to _ _ _ [] ?_ ?_ ?_ rfl rfl ?_) (ai ?_ rfl))))
   ·exact ⟨⟨rfl, rfl, rfl⟩, trivial⟩
   ·exact rfl
   ·exact rfl
   ·exact tr3 <| trivial
   ·exact rfl
  ·refine sn ?_
   replace h := oi h
   refine xi ⟨(n1, ((IntKind.i64.wrap (s2 + (1 : Int))), x5.2)), hl1 _ h.symm⟩ (ai (Nat.lt_succ_self _) ?_)
   refine Gho.to _ _ _ [0] ?_ ?_ ?_ rfl rfl ?_
   ·exact ⟨⟨rfl, rfl, rfl⟩, trivial⟩
   ·exact rfl
   ·exact rfl
   ·exact ⟨rfl, rfl, trivial, rfl, rfl, ⟨rfl, rfl, rfl⟩, rfl, rfl, trivial, rfl, rfl, trivial, trivial⟩
 ·refine sn <| sj <| sn ?_
  replace h := oi h
  replace h := hr1 _ h.symm
  have h0 := (Prod.mk.inj h).1
  have h1 := (Prod.mk.inj h).2
  subst h0
  subst h1
  refine xi [⟨2, ss [], none⟩] (xi [.cells 72 (S_expr_parser.cells s3) []] (ai rfl (ai (Gho.to _ _ _ [] ?_ ?_ ?_ rfl rfl ?_) (ai ?_ rfl))))
  ·exact ⟨⟨rfl, rfl, rfl⟩, trivial⟩
  ·exact rfl
  ·exact rfl
  ·exact tr3 <| trivial
  ·exact rfl
theorem expr_parser_one_s_ok (E : Pm.Env) [LaidE E] (rec_expr_parser_any : S_expr_parser → Option (S_Expr × S_expr_parser)) (rec_expr_parser_any_ok : ∀ (E : Pm.Env) [LaidE E] (o0 : S_expr_parser) (r : S_Expr) (o0' : S_expr_parser) (h : rec_expr_parser_any o0 = some (r, o0')), FnW E Tryz.prog 42 [AV.ptr 0 0] [.cells 72 (S_expr_parser.cells o0) []] [] (S_Expr.av r) none [.cells 72 (S_expr_parser.cells o0') []] []) (rec_expr_parser_one : S_expr_parser → Option (S_Expr × S_expr_parser)) (rec_expr_parser_one_ok : ∀ (E : Pm.Env) [LaidE E] (o0 : S_expr_parser) (r : S_Expr) (o0' : S_expr_parser) (h : rec_expr_parser_one o0 = some (r, o0')), FnW E Tryz.prog 66 [AV.ptr 0 0] [.cells 72 (S_expr_parser.cells o0) []] [] (S_Expr.av r) none [.cells 72 (S_expr_parser.cells o0') []] []) (o0 : S_expr_parser) (r : S_Expr) (o0' : S_expr_parser) (h : expr_parser_one_s rec_expr_parser_any rec_expr_parser_one o0 = some (r, o0')) : FnW E Tryz.prog 66 [AV.ptr 0 0] [.cells 72 (S_expr_parser.cells o0) []] [] (S_Expr.av r) none [.cells 72 (S_expr_parser.cells o0') []] [] := by
 refine FnW.of_evB (T := T) (rows := []) tOk mixed Tryz.func66 rfl (by kernel_rfl) (by kernel_rfl) rfl rfl fun hwf => ?_
 unfold expr_parser_one_s at h
 refine sj <| ai rfl <| sn <| sj <| sj <| sn ?_
 refine Br.of h (fun ht h => ?_) fun ht h => ?_
 ·refine sj ?_
  refine xi (some 31) (ai (okM.mk (show (31 : Nat) = freeM T _ _ _ from by kernel_rfl)) ?_)
  refine ai ⟨rfl, rfl, rfl, lb rfl⟩ (xi [ii 0, ii 0, ss [], ss [], AV.list 5 (([] : List S_Expr).map S_Expr.avR)] (ai (fun _ => rfl) ?_))
  refine sn ?_
  replace h := oi h
  have h0 := (Prod.mk.inj h).1
  have h1 := (Prod.mk.inj h).2
  subst h0
  subst h1
  refine xi [⟨2, AV.ptr 1 0, none⟩] (xi [.cells 72 (S_expr_parser.cells o0) [], .cells 26 [ii 0, ii 0, ss [], ss [], AV.list 5 (([] : List S_Expr).map S_Expr.avR)] []] (ai rfl (ai (Gho.to _ _ _ [] ?_ ?_ ?_ rfl rfl ?_) (ai ?_ rfl))))
  ·exact ⟨⟨rfl, rfl, rfl⟩, ⟨⟨rfl, rfl, rfl⟩, trivial⟩⟩
  ·exact rfl
  ·exact rfl
  ·exact tr3 <| trivial
  ·refine ai ⟨lb rfl, lb rfl⟩ (xi (AV.agg [ii 0, ii 0, ss [], ss [], AV.list 5 (([] : List S_Expr).map S_Expr.avR)]) (ai rfl ?_))
   exact rfl
 ·refine sj <| bind_elim h fun x1 hx1 h => CallH.ren [0] [] [.cells 72 (S_expr_parser.cells x1.2) [], .cells 26 [ii 0, ii 0, ss [], ss [], AV.list 5 (([] : List S_Expr).map S_Expr.avR)] [(4, 0)]] [2] (expr_parser_eat_ok E o0 ([33] : Bytes) x1.1 x1.2 hx1) rfl rfl rfl rfl rfl rfl rfl rfl rfl <| sn ?_
  refine Br.of h (fun ht h => ?_) fun ht h => ?_
  ·refine sj <| bind_elim h fun x2 hx2 h => CallH.ren [0] [] [.cells 72 (S_expr_parser.cells x2.2) [], .cells 26 [ii 0, ii 0, ss [], ss [], AV.list 5 (([] : List S_Expr).map S_Expr.avR)] [(4, 0)]] [2] (rec_expr_parser_one_ok E x1.2 x2.1 x2.2 hx2) rfl rfl rfl rfl rfl rfl rfl rfl rfl <| ai ⟨rfl, rfl, rfl, rfl⟩ <| ai ⟨rfl, rfl, rfl⟩ <| NormE.to (AV.list 5 (([x2.1] : List S_Expr).map S_Expr.avR)) (fun _ => by simp only [List.map, S_Expr.av_eq]; rfl) <| ai ⟨rfl, rfl, lb rfl⟩ <| ai ⟨rfl, rfl, lb rfl⟩ ?_
   refine xi none (ai trivial ?_)
   refine ai ⟨rfl, rfl, rfl, lb rfl⟩ (xi [ii 4, ii 0, ss [], ss [], AV.list 5 (([x2.1] : List S_Expr).map S_Expr.avR)] (ai (fun _ => rfl) ?_))
   refine sn ?_
   replace h := oi h
   have h0 := (Prod.mk.inj h).1
   have h1 := (Prod.mk.inj h).2
   subst h0
   subst h1
   refine xi [⟨2, AV.ptr 1 0, none⟩] (xi [.cells 72 (S_expr_parser.cells x2.2) [], .cells 26 [ii 4, ii 0, ss [], ss [], AV.list 5 (([x2.1] : List S_Expr).map S_Expr.avR)] []] (ai rfl (ai (Gho.to _ _ _ [] ?_ ?_ ?_ rfl rfl ?_) (ai ?_ rfl))))
   ·exact ⟨⟨rfl, rfl, rfl⟩, ⟨⟨rfl, rfl, rfl⟩, trivial⟩⟩
   ·exact rfl
   ·exact rfl
   ·exact tr3 <| trivial
   ·refine ai ⟨lb rfl, lb rfl⟩ (xi (AV.agg [ii 4, ii 0, ss [], ss [], AV.list 5 (([x2.1] : List S_Expr).map S_Expr.avR)]) (ai rfl ?_))
    exact rfl
  ·refine sj <| bind_elim h fun x3 hx3 h => CallH.ren [0] [] [.cells 72 (S_expr_parser.cells x3.2) [], .cells 26 [ii 0, ii 0, ss [], ss [], AV.list 5 (([] : List S_Expr).map S_Expr.avR)] [(4, 0)]] [2] (expr_parser_eat_ok E x1.2 ([40] : Bytes) x3.1 x3.2 hx3) rfl rfl rfl rfl rfl rfl rfl rfl rfl <| sn ?_
   refine Br.of h (fun ht h => ?_) fun ht h => ?_
   ·refine sj <| bind_elim h fun x4 hx4 h => CallH.ren [0] [] [.cells 72 (S_expr_parser.cells x4.2) [], .cells 26 [ii 0, ii 0, ss [], ss [], AV.list 5 (([] : List S_Expr).map S_Expr.avR)] [(4, 0)]] [2] (rec_expr_parser_any_ok E x3.2 x4.1 x4.2 hx4) rfl rfl rfl rfl rfl rfl rfl rfl rfl <| ai rfl ?_
    refine ai ⟨rfl, rfl, rfl, lb rfl⟩ (xi (S_Expr.cells x4.1) (ai (fun _ => rfl) ?_))
    refine SeqN.via (St.of [⟨0, AV.ptr 0 0, none⟩, ⟨2, AV.ptr 1 0, none⟩, ⟨3, AV.ptr 2 0, none⟩] [.cells 72 (S_expr_parser.cells x4.2) [], .cells 26 [ii 0, ii 0, ss [], ss [], AV.list 5 (([] : List S_Expr).map S_Expr.avR)] [(4, 0)], .cells 26 (S_Expr.cells x4.1) []] [1]) ?_ ?_
    ·refine Gho.to _ _ _ [0] ?_ ?_ ?_ rfl rfl ?_
     ·exact ⟨⟨rfl, rfl, rfl⟩, ⟨⟨rfl, rfl, rfl⟩, ⟨⟨rfl, rfl, rfl⟩, trivial⟩⟩⟩
     ·exact rfl
     ·exact rfl
     ·exact tr3 <| tr3 <| tr3 <| trivial
    refine sj <| sj <| bind_elim h fun x5 hx5 h => CallH.ren [0] [] [.cells 72 (S_expr_parser.cells x5.2) [], .cells 26 [ii 0, ii 0, ss [], ss [], AV.list 5 (([] : List S_Expr).map S_Expr.avR)] [(4, 0)], .cells 26 (S_Expr.cells x4.1) []] [1] (expr_parser_eat_ok E x4.2 ([41] : Bytes) x5.1 x5.2 hx5) rfl rfl rfl rfl rfl rfl rfl rfl rfl <| sn ?_
    refine Br.of h (fun ht h => ?_) fun ht h => ?_
    ·refine sj <| bind_elim h fun x6 hx6 h => CallH.ren [0] [] [.cells 72 (S_expr_parser.cells x6.2) [], .cells 26 [ii 0, ii 0, ss [], ss [], AV.list 5 (([] : List S_Expr).map S_Expr.avR)] [(4, 0)], .cells 26 (S_Expr.cells x4.1) []] [1] (expr_parser_fail_ok E x5.2 x6.1 x6.2 hx6) rfl rfl rfl rfl rfl rfl rfl rfl rfl ?_
     refine ai ⟨rfl, rfl, rfl, lb rfl⟩ (xi (S_Expr.cells x6.1) (ai (fun _ => rfl) ?_))
     refine sn ?_
     replace h := oi h
     have h0 := (Prod.mk.inj h).1
     have h1 := (Prod.mk.inj h).2
     subst h0
     subst h1
     refine xi [⟨2, AV.ptr 1 0, none⟩] (xi [.cells 72 (S_expr_parser.cells x6.2) [], .cells 26 (S_Expr.cells x6.1) []] (ai rfl (ai (Gho.to _ _ _ [] ?_ ?_ ?_ rfl rfl ?_) (ai ?_ rfl))))
     ·exact ⟨⟨rfl, rfl, rfl⟩, ⟨⟨rfl, rfl, rfl⟩, trivial⟩⟩
     ·exact rfl
     ·exact rfl
     ·exact tr3 <| trivial
     ·refine ai ⟨lb rfl, lb rfl⟩ (xi (S_Expr.av x6.1) (ai rfl ?_))
      exact rfl
    ·refine sn <| sj <| ai ⟨lb rfl, lb rfl⟩ <| NormE.to (S_Expr.av x4.1) (fun _ => rfl) ?_
     refine ai ⟨rfl, rfl, rfl, lb rfl⟩ (xi (S_Expr.cells x4.1) (ai (fun _ => rfl) ?_))
     refine sn ?_
     replace h := oi h
     have h0 := (Prod.mk.inj h).1
     have h1 := (Prod.mk.inj h).2
     subst h0
     subst h1
     refine xi [⟨2, AV.ptr 1 0, none⟩] (xi [.cells 72 (S_expr_parser.cells x5.2) [], .cells 26 (S_Expr.cells x4.1) []] (ai rfl (ai (Gho.to _ _ _ [] ?_ ?_ ?_ rfl rfl ?_) (ai ?_ rfl))))
     ·exact ⟨⟨rfl, rfl, rfl⟩, ⟨⟨rfl, rfl, rfl⟩, trivial⟩⟩
     ·exact rfl
     ·exact rfl
     ·exact tr3 <| trivial
     ·refine ai ⟨lb rfl, lb rfl⟩ (xi (S_Expr.av x4.1) (ai rfl ?_))
      exact rfl
   ·refine sn <| sj <| bind_elim h fun x7 hx7 h => CallH.ren [0] [] [.cells 72 (S_expr_parser.cells x7.2) [], .cells 26 [ii 0, ii 0, ss [], ss [], AV.list 5 (([] : List S_Expr).map S_Expr.avR)] [(4, 0)]] [2] (expr_parser_simple_ok E x3.2 x7.1 x7.2 hx7) rfl rfl rfl rfl rfl rfl rfl rfl rfl <| ai rfl ?_
    refine ai ⟨rfl, rfl, rfl, lb rfl⟩ (xi (S_Expr.cells x7.1) (ai (fun _ => rfl) ?_))
    refine SeqN.via (St.of [⟨0, AV.ptr 0 0, none⟩, ⟨2, AV.ptr 1 0, none⟩, ⟨4, AV.ptr 2 0, none⟩] [.cells 72 (S_expr_parser.cells x7.2) [], .cells 26 [ii 0, ii 0, ss [], ss [], AV.list 5 (([] : List S_Expr).map S_Expr.avR)] [(4, 0)], .cells 26 (S_Expr.cells x7.1) []] [1]) ?_ ?_
    ·refine Gho.to _ _ _ [0] ?_ ?_ ?_ rfl rfl ?_
     ·exact ⟨⟨rfl, rfl, rfl⟩, ⟨⟨rfl, rfl, rfl⟩, ⟨⟨rfl, rfl, rfl⟩, trivial⟩⟩⟩
     ·exact rfl
     ·exact rfl
     ·exact tr3 <| tr3 <| tr3 <| trivial
    refine sj <| bind_elim h fun x8 hx8 h => CallH.ren [0] [] [.cells 72 (S_expr_parser.cells x8.2) [], .cells 26 [ii 0, ii 0, ss [], ss [], AV.list 5 (([] : List S_Expr).map S_Expr.avR)] [(4, 0)], .cells 26 (S_Expr.cells x7.1) []] [1] (expr_parser_sign_ok E x7.2 x8.1 x8.2 hx8) rfl rfl rfl rfl rfl rfl rfl rfl rfl <| sn <| sj <| sj <| sn ?_
    refine Br.of h (fun ht h => ?_) fun ht h => ?_
    ·refine sj <| ai ⟨lb rfl, lb rfl⟩ <| NormE.to (S_Expr.av x7.1) (fun _ => rfl) ?_
     refine ai ⟨rfl, rfl, rfl, lb rfl⟩ (xi (S_Expr.cells x7.1) (ai (fun _ => rfl) ?_))
     refine sn ?_
     replace h := oi h
     have h0 := (Prod.mk.inj h).1
     have h1 := (Prod.mk.inj h).2
     subst h0
     subst h1
     refine xi [⟨2, AV.ptr 1 0, none⟩] (xi [.cells 72 (S_expr_parser.cells x8.2) [], .cells 26 (S_Expr.cells x7.1) []] (ai rfl (ai (Gho.to _ _ _ [] ?_ ?_ ?_ rfl rfl ?_) (ai ?_ rfl))))
     ·exact ⟨⟨rfl, rfl, rfl⟩, ⟨⟨rfl, rfl, rfl⟩, trivial⟩⟩
     ·exact rfl
     ·exact rfl
     ·exact tr3 <| trivial
     ·refine ai ⟨lb rfl, lb rfl⟩ (xi (S_Expr.av x7.1) (ai rfl ?_))
      exact rfl
    ·refine sn <| sj <| Or.inl <| ai ⟨lb rfl, lb rfl⟩ <| NormE.to (S_Expr.av x7.1) (fun _ => rfl) <| bind_elim h fun x9 hx9 h => CallH.ren [0] [] [.cells 72 (S_expr_parser.cells x9.2) [], .cells 26 [ii 0, ii 0, ss [], ss [], AV.list 5 (([] : List S_Expr).map S_Expr.avR)] [(4, 0)], .cells 26 (S_Expr.cells x7.1) []] [1] (expr_parser_simple_ok E x8.2 x9.1 x9.2 hx9) rfl rfl rfl rfl rfl rfl rfl rfl rfl <| ai ⟨rfl, rfl, rfl, rfl⟩ <| ai ⟨rfl, rfl, rfl, rfl⟩ <| ai ⟨rfl, rfl, rfl⟩ <| NormE.to (AV.list 5 (([x7.1, x9.1] : List S_Expr).map S_Expr.avR)) (fun _ => by simp only [List.map, S_Expr.av_eq]; rfl) <| ai ⟨rfl, rfl, lb rfl⟩ <| ai ⟨rfl, rfl, lb rfl⟩ <| ai ⟨rfl, rfl, lb rfl⟩ ?_
     refine xi none (ai trivial ?_)
     refine ai ⟨rfl, rfl, rfl, lb rfl⟩ (xi [ii 7, ii 0, ss [], ss x8.1, AV.list 5 (([x7.1, x9.1] : List S_Expr).map S_Expr.avR)] (ai (fun _ => rfl) ?_))
     refine ai (by kernel_rfl) <| sn ?_
     replace h := oi h
     have h0 := (Prod.mk.inj h).1
     have h1 := (Prod.mk.inj h).2
     subst h0
     subst h1
     refine xi [⟨2, AV.ptr 1 0, none⟩] (xi [.cells 72 (S_expr_parser.cells x9.2) [], .cells 26 [ii 7, ii 0, ss [], ss x8.1, AV.list 5 (([x7.1, x9.1] : List S_Expr).map S_Expr.avR)] []] (ai rfl (ai (Gho.to _ _ _ [] ?_ ?_ ?_ rfl rfl ?_) (ai ?_ rfl))))
     ·exact ⟨⟨rfl, rfl, rfl⟩, ⟨⟨rfl, rfl, rfl⟩, trivial⟩⟩
     ·exact rfl
     ·exact rfl
     ·exact tr3 <| trivial
     ·refine ai ⟨lb rfl, lb rfl⟩ (xi (AV.agg [ii 7, ii 0, ss [], ss x8.1, AV.list 5 (([x7.1, x9.1] : List S_Expr).map S_Expr.avR)]) (ai rfl ?_))
      exact rfl
theorem expr_parser_one_r_ok (rec_expr_parser_any : S_expr_parser → Option (S_Expr × S_expr_parser)) (rec_expr_parser_any_ok : ∀ (E : Pm.Env) [LaidE E] (o0 : S_expr_parser) (r : S_Expr) (o0' : S_expr_parser) (h : rec_expr_parser_any o0 = some (r, o0')), FnW E Tryz.prog 42 [AV.ptr 0 0] [.cells 72 (S_expr_parser.cells o0) []] [] (S_Expr.av r) none [.cells 72 (S_expr_parser.cells o0') []] []) (n : Nat) : ∀ (E : Pm.Env) [LaidE E] (o0 : S_expr_parser) (r : S_Expr) (o0' : S_expr_parser) (h : expr_parser_one_r rec_expr_parser_any n o0 = some (r, o0')), FnW E Tryz.prog 66 [AV.ptr 0 0] [.cells 72 (S_expr_parser.cells o0) []] [] (S_Expr.av r) none [.cells 72 (S_expr_parser.cells o0') []] [] := by
 induction n with
 | zero => intro E _ o0 r o0' h; cases (show none = some _ from h)
 | succ n ih => intro E _ o0 r o0' h; exact expr_parser_one_s_ok E rec_expr_parser_any rec_expr_parser_any_ok (expr_parser_one_r rec_expr_parser_any n) ih o0 r o0' h
theorem expr_parser_one_ok (E : Pm.Env) [LaidE E] (rec_expr_parser_any : S_expr_parser → Option (S_Expr × S_expr_parser)) (rec_expr_parser_any_ok : ∀ (E : Pm.Env) [LaidE E] (o0 : S_expr_parser) (r : S_Expr) (o0' : S_expr_parser) (h : rec_expr_parser_any o0 = some (r, o0')), FnW E Tryz.prog 42 [AV.ptr 0 0] [.cells 72 (S_expr_parser.cells o0) []] [] (S_Expr.av r) none [.cells 72 (S_expr_parser.cells o0') []] []) (o0 : S_expr_parser) (r : S_Expr) (o0' : S_expr_parser) (h : expr_parser_one rec_expr_parser_any o0 = some (r, o0')) : FnW E Tryz.prog 66 [AV.ptr 0 0] [.cells 72 (S_expr_parser.cells o0) []] [] (S_Expr.av r) none [.cells 72 (S_expr_parser.cells o0') []] [] := expr_parser_one_r_ok rec_expr_parser_any rec_expr_parser_any_ok 1000000 E o0 r o0' h
theorem expr_parser_parts_expr_parser_one_ok (E : Pm.Env) [LaidE E] (rec_expr_parser_any : S_expr_parser → Option (S_Expr × S_expr_parser)) (rec_expr_parser_any_ok : ∀ (E : Pm.Env) [LaidE E] (o0 : S_expr_parser) (r : S_Expr) (o0' : S_expr_parser) (h : rec_expr_parser_any o0 = some (r, o0')), FnW E Tryz.prog 42 [AV.ptr 0 0] [.cells 72 (S_expr_parser.cells o0) []] [] (S_Expr.av r) none [.cells 72 (S_expr_parser.cells o0') []] []) (o0 : S_expr_parser) (a1 : Int) (a2 : Bytes) (r : S_Expr) (o0' : S_expr_parser) (h : expr_parser_parts_expr_parser_one rec_expr_parser_any o0 a1 a2 = some (r, o0')) : FnW E Tryz.prog 64 [AV.ptr 0 0, ii a1, ss a2, AV.fn 66 [AV.ptr 0 0] []] [.cells 72 (S_expr_parser.cells o0) []] [] (S_Expr.av r) none [.cells 72 (S_expr_parser.cells o0') []] [] := by
 refine FnW.of_evB (T := T) (rows := []) tOk mixed Tryz.func64 rfl (by kernel_rfl) (by kernel_rfl) rfl rfl fun hwf => ?_
 unfold expr_parser_parts_expr_parser_one at h
 refine sj <| ai rfl <| sn <| sj <| bind_elim h fun x1 hx1 h => CallH.ren [0] [] [.cells 72 (S_expr_parser.cells x1.2) [], .cells 26 [ii 0, ii 0, ss [], ss [], AV.list 5 (([] : List S_Expr).map S_Expr.avR)] [(4, 0)]] [2] (expr_parser_one_ok E rec_expr_parser_any rec_expr_parser_any_ok o0 x1.1 x1.2 hx1) rfl rfl rfl rfl rfl rfl rfl rfl rfl <| ai ⟨rfl, rfl, rfl, rfl⟩ <| ai ⟨rfl, rfl, rfl⟩ <| NormE.to (AV.list 5 (([x1.1] : List S_Expr).map S_Expr.avR)) (fun _ => by simp only [List.map, S_Expr.av_eq]; rfl) <| sn <| bind_elim h fun j2 hj2 h => ?_
 refine SeqJ.join (St.of [⟨1, ii a1, none⟩, ⟨8, AV.ptr 1 0, none⟩, ⟨9, AV.list 5 (j2.1.map S_Expr.avR), some 0⟩] [.cells 72 (S_expr_parser.cells j2.2) [], .cells 26 [ii 0, ii 0, ss [], ss [], AV.list 5 (([] : List S_Expr).map S_Expr.avR)] [(4, 1)]] [1, 1]) ?_ ?_
 ·clear h; have h := hj2; clear hj2
  refine LoopE.img (fun x : ((List S_Expr) × S_expr_parser) => St.of [⟨0, AV.ptr 0 0, none⟩, ⟨1, ii a1, none⟩, ⟨2, ss a2, none⟩, ⟨3, AV.fn 66 [AV.ptr 0 0] [], none⟩, ⟨8, AV.ptr 1 0, none⟩, ⟨9, AV.list 5 (x.1.map S_Expr.avR), some 0⟩] [.cells 72 (S_expr_parser.cells x.2) [], .cells 26 [ii 0, ii 0, ss [], ss [], AV.list 5 (([] : List S_Expr).map S_Expr.avR)] [(4, 1)]] [1, 1]) (expr_parser_parts_expr_parser_one_b1 rec_expr_parser_any a2) (([x1.1] : List S_Expr), x1.2) h ?_ ?_
  ·refine Gho.to _ _ _ [1, 0] ?_ ?_ ?_ rfl rfl ?_
   ·exact ⟨⟨rfl, rfl, rfl⟩, ⟨⟨rfl, rfl, rfl⟩, trivial⟩⟩
   ·exact rfl
   ·exact rfl
   ·exact ⟨rfl, rfl, trivial, rfl, rfl, trivial, rfl, rfl, trivial, rfl, rfl, trivial, rfl, rfl, trivial, rfl, rfl, ⟨rfl, rfl, rfl⟩, trivial⟩
  intro n1 x y1 h hl1 hr1
  obtain ⟨s3, s4⟩ := x
  unfold expr_parser_parts_expr_parser_one_b1 at h
  dsimp only at h
  refine sj <| sj <| bind_elim h fun x5 hx5 h => CallH.ren [0] [] [.cells 72 (S_expr_parser.cells x5.2) [], .cells 26 [ii 0, ii 0, ss [], ss [], AV.list 5 (([] : List S_Expr).map S_Expr.avR)] [(4, 1)]] [1, 1] (expr_parser_eat_ok E s4 a2 x5.1 x5.2 hx5) rfl rfl rfl rfl rfl rfl rfl rfl rfl <| sn ?_
  refine Br.of h (fun ht h => ?_) fun ht h => ?_
  ·refine sn <| bind_elim h fun x6 hx6 h => CallH.ren [0] [] [.cells 72 (S_expr_parser.cells x6.2) [], .cells 26 [ii 0, ii 0, ss [], ss [], AV.list 5 (([] : List S_Expr).map S_Expr.avR)] [(4, 1)]] [1, 1] (expr_parser_one_ok E rec_expr_parser_any rec_expr_parser_any_ok x5.2 x6.1 x6.2 hx6) rfl rfl rfl rfl rfl rfl rfl rfl rfl <| ai ⟨rfl, rfl, rfl, rfl⟩ <| ai ⟨rfl, rfl, rfl⟩ <| NormE.to (AV.list 5 (([x6.1] : List S_Expr).map S_Expr.avR)) (fun _ => by simp only [List.map, S_Expr.av_eq]; rfl) <| bind_elim h fun x7 hx7 h => ?_
   have qx7 := (app_some hx7).1
   have hx7e := (app_some hx7).2
   refine ai ⟨rfl, rfl, rfl⟩ <| ai rfl <| ai (app_cond S_Expr.avR qx7) <| NormE.to (AV.list 5 (x7.map S_Expr.avR)) (fun _ => (app_list 5 S_Expr.avR _ _).trans (congrArg (fun y => AV.list 5 (List.map S_Expr.avR y)) hx7e.symm)) ?_
   replace h := oi h
   refine xi ⟨(n1, (x7, x6.2)), hl1 _ h.symm⟩ (ai (Nat.lt_succ_self _) ?_)
   refine Gho.to _ _ _ [3, 1] ?_ ?_ ?_ rfl rfl ?_
   ·exact ⟨⟨rfl, rfl, rfl⟩, ⟨⟨rfl, rfl, rfl⟩, trivial⟩⟩
   ·exact rfl
   ·exact rfl
   ·exact ⟨rfl, rfl, trivial, rfl, rfl, trivial, rfl, rfl, trivial, rfl, rfl, trivial, rfl, rfl, trivial, rfl, rfl, ⟨rfl, rfl, rfl⟩, trivial⟩
  ·replace h := oi h
   replace h := hr1 _ h.symm
   subst h
   refine Gho.to _ _ _ [0, 1] ?_ ?_ ?_ rfl rfl ?_
   ·exact ⟨⟨rfl, rfl, rfl⟩, ⟨⟨rfl, rfl, rfl⟩, trivial⟩⟩
   ·exact rfl
   ·exact rfl
   ·exact ⟨rfl, rfl, trivial, rfl, rfl, trivial, rfl, rfl, ⟨rfl, rfl, rfl⟩, trivial⟩
 ·clear hj2
  refine sj <| sj <| NormE.to (ii (j2.1.length : Int)) (fun _ => len_list S_Expr.avR j2.1) <| sn ?_
  refine Br.of h (fun ht h => ?_) fun ht h => ?_
  ·refine sj <| bind_elim h fun x8 hx8 h => ?_
   refine ai rfl (xi (S_Expr.av x8) (ai (fun hg => S_Expr.av_eq x8 ▸ idx_map _ hx8) ?_))
   refine ai (lb rfl) <| NormE.to (S_Expr.av x8) (fun _ => rfl) ?_
   refine ai ⟨rfl, rfl, rfl, lb rfl⟩ (xi (S_Expr.cells x8) (ai (fun _ => rfl) ?_))
   refine sn ?_
   replace h := oi h
   have h0 := (Prod.mk.inj h).1
   have h1 := (Prod.mk.inj h).2
   subst h0
   subst h1
   refine xi [⟨8, AV.ptr 1 0, none⟩] (xi [.cells 72 (S_expr_parser.cells j2.2) [], .cells 26 (S_Expr.cells x8) []] (ai rfl (ai (Gho.to _ _ _ [] ?_ ?_ ?_ rfl rfl ?_) (ai ?_ rfl))))
   ·exact ⟨⟨rfl, rfl, rfl⟩, ⟨⟨rfl, rfl, rfl⟩, trivial⟩⟩
   ·exact rfl
   ·exact rfl
   ·exact tr3 <| trivial
   ·refine ai ⟨lb rfl, lb rfl⟩ (xi (S_Expr.av x8) (ai rfl ?_))
    exact rfl
  ·refine sn <| sj <| ai ⟨rfl, rfl, lb rfl⟩ <| ai ⟨rfl, rfl, lb rfl⟩ ?_
   refine xi none (ai trivial ?_)
   refine ai ⟨rfl, rfl, rfl, lb rfl⟩ (xi [ii a1, ii 0, ss [], ss [], AV.list 5 (j2.1.map S_Expr.avR)] (ai (fun _ => rfl) ?_))
   refine sn ?_
   replace h := oi h
   have h0 := (Prod.mk.inj h).1
   have h1 := (Prod.mk.inj h).2
   subst h0
   subst h1
   refine xi [⟨8, AV.ptr 1 0, none⟩] (xi [.cells 72 (S_expr_parser.cells j2.2) [], .cells 26 [ii a1, ii 0, ss [], ss [], AV.list 5 (j2.1.map S_Expr.avR)] []] (ai rfl (ai (Gho.to _ _ _ [] ?_ ?_ ?_ rfl rfl ?_) (ai ?_ rfl))))
   ·exact ⟨⟨rfl, rfl, rfl⟩, ⟨⟨rfl, rfl, rfl⟩, trivial⟩⟩
   ·exact rfl
   ·exact rfl
   ·exact tr3 <| trivial
   ·refine ai ⟨lb rfl, lb rfl⟩ (xi (AV.agg [ii a1, ii 0, ss [], ss [], AV.list 5 (j2.1.map S_Expr.avR)]) (ai rfl ?_))
    exact rfl
theorem expr_parser_any_1_ok (E : Pm.Env) [LaidE E] (rec_expr_parser_any : S_expr_parser → Option (S_Expr × S_expr_parser)) (rec_expr_parser_any_ok : ∀ (E : Pm.Env) [LaidE E] (o0 : S_expr_parser) (r : S_Expr) (o0' : S_expr_parser) (h : rec_expr_parser_any o0 = some (r, o0')), FnW E Tryz.prog 42 [AV.ptr 0 0] [.cells 72 (S_expr_parser.cells o0) []] [] (S_Expr.av r) none [.cells 72 (S_expr_parser.cells o0') []] []) (o0 : S_expr_parser) (r : S_Expr) (o0' : S_expr_parser) (h : expr_parser_any_1 rec_expr_parser_any o0 = some (r, o0')) : FnW E Tryz.prog 65 [AV.ptr 1 0] [.cells 72 (S_expr_parser.cells o0) [], .cells 70 [AV.ptr 0 0] []] [] (S_Expr.av r) none [.cells 72 (S_expr_parser.cells o0') [], .cells 70 [AV.ptr 0 0] []] [] := by
 refine FnW.of_evB (T := T) (rows := []) tOk mixed Tryz.func65 rfl (by kernel_rfl) (by kernel_rfl) rfl rfl fun hwf => ?_
 unfold expr_parser_any_1 at h
 refine sj <| ai rfl ?_
 refine SeqN.via (St.of [⟨0, AV.ptr 1 0, none⟩, ⟨1, AV.ptr 2 0, none⟩] [.cells 72 (S_expr_parser.cells o0) [], .cells 70 [AV.ptr 0 0] [], .cells 26 [ii 0, ii 0, ss [], ss [], AV.list 5 (([] : List S_Expr).map S_Expr.avR)] [(4, 0)]] [1]) ?_ ?_
 ·refine Gho.to _ _ _ [0] ?_ ?_ ?_ rfl rfl ?_
  ·exact ⟨⟨rfl, rfl, rfl⟩, ⟨⟨rfl, rfl, rfl⟩, ⟨⟨rfl, rfl, rfl⟩, trivial⟩⟩⟩
  ·exact rfl
  ·exact rfl
  ·exact tr3 <| tr3 <| trivial
 refine sj <| bind_elim h fun x1 hx1 h => CallH.ren [0] [] [.cells 72 (S_expr_parser.cells x1.2) [], .cells 70 [AV.ptr 0 0] [], .cells 26 [ii 0, ii 0, ss [], ss [], AV.list 5 (([] : List S_Expr).map S_Expr.avR)] [(4, 0)]] [1] (expr_parser_parts_expr_parser_one_ok E rec_expr_parser_any rec_expr_parser_any_ok o0 (5 : Int) ([38] : Bytes) x1.1 x1.2 hx1) rfl rfl rfl rfl rfl rfl rfl rfl rfl ?_
 refine ai ⟨rfl, rfl, rfl, lb rfl⟩ (xi (S_Expr.cells x1.1) (ai (fun _ => rfl) ?_))
 refine sn ?_
 replace h := oi h
 have h0 := (Prod.mk.inj h).1
 have h1 := (Prod.mk.inj h).2
 subst h0
 subst h1
 refine xi [⟨1, AV.ptr 2 0, none⟩] (xi [.cells 72 (S_expr_parser.cells x1.2) [], .cells 70 [AV.ptr 0 0] [], .cells 26 (S_Expr.cells x1.1) []] (ai rfl (ai (Gho.to _ _ _ [] ?_ ?_ ?_ rfl rfl ?_) (ai ?_ rfl))))
 ·exact ⟨⟨rfl, rfl, rfl⟩, ⟨⟨rfl, rfl, rfl⟩, ⟨⟨rfl, rfl, rfl⟩, trivial⟩⟩⟩
 ·exact rfl
 ·exact rfl
 ·exact tr3 <| trivial
 ·refine ai ⟨lb rfl, lb rfl⟩ (xi (S_Expr.av x1.1) (ai rfl ?_))
  exact rfl
theorem expr_parser_parts_expr_parser_any_1_ok (E : Pm.Env) [LaidE E] (rec_expr_parser_any : S_expr_parser → Option (S_Expr × S_expr_parser)) (rec_expr_parser_any_ok : ∀ (E : Pm.Env) [LaidE E] (o0 : S_expr_parser) (r : S_Expr) (o0' : S_expr_parser) (h : rec_expr_parser_any o0 = some (r, o0')), FnW E Tryz.prog 42 [AV.ptr 0 0] [.cells 72 (S_expr_parser.cells o0) []] [] (S_Expr.av r) none [.cells 72 (S_expr_parser.cells o0') []] []) (o0 : S_expr_parser) (a1 : Int) (a2 : Bytes) (r : S_Expr) (o0' : S_expr_parser) (h : expr_parser_parts_expr_parser_any_1 rec_expr_parser_any o0 a1 a2 = some (r, o0')) : FnW E Tryz.prog 64 [AV.ptr 0 0, ii a1, ss a2, AV.fn 65 [] [AV.ptr 1 0]] [.cells 72 (S_expr_parser.cells o0) [], .cells 70 [AV.ptr 0 0] []] [] (S_Expr.av r) none [.cells 72 (S_expr_parser.cells o0') [], .cells 70 [AV.ptr 0 0] []] [] := by
 refine FnW.of_evB (T := T) (rows := []) tOk mixed Tryz.func64 rfl (by kernel_rfl) (by kernel_rfl) rfl rfl fun hwf => ?_
 unfold expr_parser_parts_expr_parser_any_1 at h
 refine sj <| ai rfl <| sn <| sj <| bind_elim h fun x1 hx1 h => CallH.ren [0, 1] [] [.cells 72 (S_expr_parser.cells x1.2) [], .cells 70 [AV.ptr 0 0] [], .cells 26 [ii 0, ii 0, ss [], ss [], AV.list 5 (([] : List S_Expr).map S_Expr.avR)] [(4, 0)]] [2] (expr_parser_any_1_ok E rec_expr_parser_any rec_expr_parser_any_ok o0 x1.1 x1.2 hx1) rfl rfl rfl rfl rfl rfl rfl rfl rfl <| ai ⟨rfl, rfl, rfl, rfl⟩ <| ai ⟨rfl, rfl, rfl⟩ <| NormE.to (AV.list 5 (([x1.1] : List S_Expr).map S_Expr.avR)) (fun _ => by simp only [List.map, S_Expr.av_eq]; rfl) <| sn <| bind_elim h fun j2 hj2 h => ?_
 refine SeqJ.join (St.of [⟨1, ii a1, none⟩, ⟨8, AV.ptr 2 0, none⟩, ⟨9, AV.list 5 (j2.1.map S_Expr.avR), some 0⟩] [.cells 72 (S_expr_parser.cells j2.2) [], .cells 70 [AV.ptr 0 0] [], .cells 26 [ii 0, ii 0, ss [], ss [], AV.list 5 (([] : List S_Expr).map S_Expr.avR)] [(4, 1)]] [1, 1]) ?_ ?_
 ·clear h; have h := hj2; clear hj2
  refine LoopE.img (fun x : ((List S_Expr) × S_expr_parser) => St.of [⟨0, AV.ptr 0 0, none⟩, ⟨1, ii a1, none⟩, ⟨2, ss a2, none⟩, ⟨3, AV.fn 65 [] [AV.ptr 1 0], none⟩, ⟨8, AV.ptr 2 0, none⟩, ⟨9, AV.list 5 (x.1.map S_Expr.avR), some 0⟩] [.cells 72 (S_expr_parser.cells x.2) [], .cells 70 [AV.ptr 0 0] [], .cells 26 [ii 0, ii 0, ss [], ss [], AV.list 5 (([] : List S_Expr).map S_Expr.avR)] [(4, 1)]] [1, 1]) (expr_parser_parts_expr_parser_any_1_b1 rec_expr_parser_any a2) (([x1.1] : List S_Expr), x1.2) h ?_ ?_
  ·refine Gho.to _ _ _ [1, 0] ?_ ?_ ?_ rfl rfl ?_
   ·exact ⟨⟨rfl, rfl, rfl⟩, ⟨⟨rfl, rfl, rfl⟩, ⟨⟨rfl, rfl, rfl⟩, trivial⟩⟩⟩
   ·exact rfl
   ·exact rfl
   ·exact ⟨rfl, rfl, trivial, rfl, rfl, trivial, rfl, rfl, trivial, rfl, rfl, trivial, rfl, rfl, trivial, rfl, rfl, ⟨rfl, rfl, rfl⟩, trivial⟩
  intro n1 x y1 h hl1 hr1
  obtain ⟨s3, s4⟩ := x
  unfold expr_parser_parts_expr_parser_any_1_b1 at h
  dsimp only at h
  refine sj <| sj <| bind_elim h fun x5 hx5 h => CallH.ren [0] [] [.cells 72 (S_expr_parser.cells x5.2) [], .cells 70 [AV.ptr 0 0] [], .cells 26 [ii 0, ii 0, ss [], ss [], AV.list 5 (([] : List S_Expr).map S_Expr.avR)] [(4, 1)]] [1, 1] (expr_parser_eat_ok E s4 a2 x5.1 x5.2 hx5) rfl rfl rfl rfl rfl rfl rfl rfl rfl <| sn ?_
  refine Br.of h (fun ht h => ?_) fun ht h => ?_
  ·refine sn <| bind_elim h fun x6 hx6 h => CallH.ren [0, 1] [] [.cells 72 (S_expr_parser.cells x6.2) [], .cells 70 [AV.ptr 0 0] [], .cells 26 [ii 0, ii 0, ss [], ss [], AV.list 5 (([] : List S_Expr).map S_Expr.avR)] [(4, 1)]] [1, 1] (expr_parser_any_1_ok E rec_expr_parser_any rec_expr_parser_any_ok x5.2 x6.1 x6.2 hx6) rfl rfl rfl rfl rfl rfl rfl rfl rfl <| ai ⟨rfl, rfl, rfl, rfl⟩ <| ai ⟨rfl, rfl, rfl⟩ <| NormE.to (AV.list 5 (([x6.1] : List S_Expr).map S_Expr.avR)) (fun _ => by simp only [List.map, S_Expr.av_eq]; rfl) <| bind_elim h fun x7 hx7 h => ?_
   have qx7 := (app_some hx7).1
   have hx7e := (app_some hx7).2
   refine ai ⟨rfl, rfl, rfl⟩ <| ai rfl <| ai (app_cond S_Expr.avR qx7) <| NormE.to (AV.list 5 (x7.map S_Expr.avR)) (fun _ => (app_list 5 S_Expr.avR _ _).trans (congrArg (fun y => AV.list 5 (List.map S_Expr.avR y)) hx7e.symm)) ?_
   replace h := oi h
   refine xi ⟨(n1, (x7, x6.2)), hl1 _ h.symm⟩ (ai (Nat.lt_succ_self _) ?_)
   refine Gho.to _ _ _ [3, 1] ?_ ?_ ?_ rfl rfl ?_
   ·exact ⟨⟨rfl, rfl, rfl⟩, ⟨⟨rfl, rfl, rfl⟩, ⟨⟨rfl, rfl, rfl⟩, trivial⟩⟩⟩
   ·exact rfl
   ·exact rfl
   ·exact ⟨rfl, rfl, trivial, rfl, rfl, trivial, rfl, rfl, trivial, rfl, rfl, trivial, rfl, rfl, trivial, rfl, rfl, ⟨rfl, rfl, rfl⟩, trivial⟩
  ·replace h := oi h
   replace h := hr1 _ h.symm
   subst h
   refine Gho.to _ _ _ [0, 1] ?_ ?_ ?_ rfl rfl ?_
   ·exact ⟨⟨rfl, rfl, rfl⟩, ⟨⟨rfl, rfl, rfl⟩, ⟨⟨rfl, rfl, rfl⟩, trivial⟩⟩⟩
   ·exact rfl
   ·exact rfl
   ·exact ⟨rfl, rfl, trivial, rfl, rfl, trivial, rfl, rfl, ⟨rfl, rfl, rfl⟩, trivial⟩
 ·clear hj2
  refine sj <| sj <| NormE.to (ii (j2.1.length : Int)) (fun _ => len_list S_Expr.avR j2.1) <| sn ?_
  refine Br.of h (fun ht h => ?_) fun ht h => ?_
  ·refine sj <| bind_elim h fun x8 hx8 h => ?_
   refine ai rfl (xi (S_Expr.av x8) (ai (fun hg => S_Expr.av_eq x8 ▸ idx_map _ hx8) ?_))
   refine ai (lb rfl) <| NormE.to (S_Expr.av x8) (fun _ => rfl) ?_
   refine ai ⟨rfl, rfl, rfl, lb rfl⟩ (xi (S_Expr.cells x8) (ai (fun _ => rfl) ?_))
   refine sn ?_
   replace h := oi h
   have h0 := (Prod.mk.inj h).1
   have h1 := (Prod.mk.inj h).2
   subst h0
   subst h1
   refine xi [⟨8, AV.ptr 2 0, none⟩] (xi [.cells 72 (S_expr_parser.cells j2.2) [], .cells 70 [AV.ptr 0 0] [], .cells 26 (S_Expr.cells x8) []] (ai rfl (ai (Gho.to _ _ _ [] ?_ ?_ ?_ rfl rfl ?_) (ai ?_ rfl))))
   ·exact ⟨⟨rfl, rfl, rfl⟩, ⟨⟨rfl, rfl, rfl⟩, ⟨⟨rfl, rfl, rfl⟩, trivial⟩⟩⟩
   ·exact rfl
   ·exact rfl
   ·exact tr3 <| trivial
   ·refine ai ⟨lb rfl, lb rfl⟩ (xi (S_Expr.av x8) (ai rfl ?_))
    exact rfl
  ·refine sn <| sj <| ai ⟨rfl, rfl, lb rfl⟩ <| ai ⟨rfl, rfl, lb rfl⟩ ?_
   refine xi none (ai trivial ?_)
   refine ai ⟨rfl, rfl, rfl, lb rfl⟩ (xi [ii a1, ii 0, ss [], ss [], AV.list 5 (j2.1.map S_Expr.avR)] (ai (fun _ => rfl) ?_))
   refine sn ?_
   replace h := oi h
   have h0 := (Prod.mk.inj h).1
   have h1 := (Prod.mk.inj h).2
   subst h0
   subst h1
   refine xi [⟨8, AV.ptr 2 0, none⟩] (xi [.cells 72 (S_expr_parser.cells j2.2) [], .cells 70 [AV.ptr 0 0] [], .cells 26 [ii a1, ii 0, ss [], ss [], AV.list 5 (j2.1.map S_Expr.avR)] []] (ai rfl (ai (Gho.to _ _ _ [] ?_ ?_ ?_ rfl rfl ?_) (ai ?_ rfl))))
   ·exact ⟨⟨rfl, rfl, rfl⟩, ⟨⟨rfl, rfl, rfl⟩, ⟨⟨rfl, rfl, rfl⟩, trivial⟩⟩⟩
   ·exact rfl
   ·exact rfl
   ·exact tr3 <| trivial
   ·refine ai ⟨lb rfl, lb rfl⟩ (xi (AV.agg [ii a1, ii 0, ss [], ss [], AV.list 5 (j2.1.map S_Expr.avR)]) (ai rfl ?_))
    exact rfl
theorem expr_parser_any_s_ok (E : Pm.Env) [LaidE E] (rec_expr_parser_any : S_expr_parser → Option (S_Expr × S_expr_parser)) (rec_expr_parser_any_ok : ∀ (E : Pm.Env) [LaidE E] (o0 : S_expr_parser) (r : S_Expr) (o0' : S_expr_parser) (h : rec_expr_parser_any o0 = some (r, o0')), FnW E Tryz.prog 42 [AV.ptr 0 0] [.cells 72 (S_expr_parser.cells o0) []] [] (S_Expr.av r) none [.cells 72 (S_expr_parser.cells o0') []] []) (o0 : S_expr_parser) (r : S_Expr) (o0' : S_expr_parser) (h : expr_parser_any_s rec_expr_parser_any o0 = some (r, o0')) : FnW E Tryz.prog 42 [AV.ptr 0 0] [.cells 72 (S_expr_parser.cells o0) []] [] (S_Expr.av r) none [.cells 72 (S_expr_parser.cells o0') []] [] := by
 refine FnW.of_evB (T := T) (rows := []) tOk mixed Tryz.func42 rfl (by kernel_rfl) (by kernel_rfl) rfl rfl fun hwf => ?_
 unfold expr_parser_any_s at h
 refine sj <| ai rfl <| ai rfl ?_
 refine SeqN.via (St.of [⟨1, AV.ptr 1 0, none⟩, ⟨2, AV.ptr 2 0, none⟩] [.cells 72 (S_expr_parser.cells o0) [], .cells 70 [AV.ptr 0 0] [], .cells 26 [ii 0, ii 0, ss [], ss [], AV.list 5 (([] : List S_Expr).map S_Expr.avR)] [(4, 0)]] [1]) ?_ ?_
 ·refine Gho.to _ _ _ [0] ?_ ?_ ?_ rfl rfl ?_
  ·exact ⟨⟨rfl, rfl, rfl⟩, ⟨⟨rfl, rfl, rfl⟩, ⟨⟨rfl, rfl, rfl⟩, trivial⟩⟩⟩
  ·exact rfl
  ·exact rfl
  ·exact tr3 <| tr3 <| trivial
 refine sj <| bind_elim h fun x1 hx1 h => CallH.ren [0, 1] [] [.cells 72 (S_expr_parser.cells x1.2) [], .cells 70 [AV.ptr 0 0] [], .cells 26 [ii 0, ii 0, ss [], ss [], AV.list 5 (([] : List S_Expr).map S_Expr.avR)] [(4, 0)]] [1] (expr_parser_parts_expr_parser_any_1_ok E rec_expr_parser_any rec_expr_parser_any_ok o0 (6 : Int) ([124] : Bytes) x1.1 x1.2 hx1) rfl rfl rfl rfl rfl rfl rfl rfl rfl ?_
 refine ai ⟨rfl, rfl, rfl, lb rfl⟩ (xi (S_Expr.cells x1.1) (ai (fun _ => rfl) ?_))
 refine sn ?_
 replace h := oi h
 have h0 := (Prod.mk.inj h).1
 have h1 := (Prod.mk.inj h).2
 subst h0
 subst h1
 refine xi [⟨2, AV.ptr 2 0, none⟩] (xi [.cells 72 (S_expr_parser.cells x1.2) [], .dead, .cells 26 (S_Expr.cells x1.1) []] (ai rfl (ai (Gho.to _ _ _ [] ?_ ?_ ?_ rfl rfl ?_) (ai ?_ rfl))))
 ·exact ⟨⟨rfl, rfl, rfl⟩, ⟨trivial, ⟨⟨rfl, rfl, rfl⟩, trivial⟩⟩⟩
 ·exact rfl
 ·exact rfl
 ·exact tr3 <| trivial
 ·refine ai ⟨lb rfl, lb rfl⟩ (xi (S_Expr.av x1.1) (ai rfl ?_))
  exact rfl
theorem expr_parser_any_r_ok (n : Nat) : ∀ (E : Pm.Env) [LaidE E] (o0 : S_expr_parser) (r : S_Expr) (o0' : S_expr_parser) (h : expr_parser_any_r n o0 = some (r, o0')), FnW E Tryz.prog 42 [AV.ptr 0 0] [.cells 72 (S_expr_parser.cells o0) []] [] (S_Expr.av r) none [.cells 72 (S_expr_parser.cells o0') []] [] := by
 induction n with
 | zero => intro E _ o0 r o0' h; cases (show none = some _ from h)
 | succ n ih => intro E _ o0 r o0' h; exact expr_parser_any_s_ok E (expr_parser_any_r n) ih o0 r o0' h
theorem expr_parser_any_ok (E : Pm.Env) [LaidE E] (o0 : S_expr_parser) (r : S_Expr) (o0' : S_expr_parser) (h : expr_parser_any o0 = some (r, o0')) : FnW E Tryz.prog 42 [AV.ptr 0 0] [.cells 72 (S_expr_parser.cells o0) []] [] (S_Expr.av r) none [.cells 72 (S_expr_parser.cells o0') []] [] := expr_parser_any_r_ok 1000000 E o0 r o0' h
theorem expr_few_ok (E : Pm.Env) [LaidE E] (a0 : S_Expr) (r : Bool) (h : expr_few a0 = some r) : FnR E Tryz.prog 44 [S_Expr.av a0] (bb r) false := by
 refine FnR.of_ev (T := T) (rows := []) tOk mixed Tryz.func44 rfl (by kernel_rfl) (by kernel_rfl) rfl fun hwf => ?_
 unfold expr_few at h
 refine sj <| ai rfl <| sn <| sj <| ai ⟨lb rfl, lb rfl⟩ <| NormE.to (S_Expr.av a0) (fun _ => rfl) <| ai ⟨rfl, rfl, rfl, rfl⟩ <| ai ⟨rfl, rfl, rfl⟩ <| NormE.to (AV.list 5 (([a0] : List S_Expr).map S_Expr.avR)) (fun _ => by simp only [List.map, S_Expr.av_eq]; rfl) <| sn <| sj <| sj <| sn ?_
 refine LoopE.img (fun x : ((List S_Expr) × Int) => St.of [⟨3, AV.list 5 (x.1.map S_Expr.avR), some 0⟩, ⟨4, ii x.2, none⟩] [] [1]) expr_few_b1 (([a0] : List S_Expr), (0 : Int)) h ?_ ?_
 ·refine Gho.to _ _ _ [0] ?_ ?_ ?_ rfl rfl ?_
  ·exact trivial
  ·exact rfl
  ·exact rfl
  ·exact ⟨rfl, rfl, ⟨rfl, rfl, rfl⟩, rfl, rfl, trivial, trivial⟩
 intro n1 x y1 h hl1 hr1
 obtain ⟨s1, s2⟩ := x
 unfold expr_few_b1 at h
 dsimp only at h
 refine sj <| sj <| NormE.to (ii (s1.length : Int)) (fun _ => len_list S_Expr.avR s1) <| sn ?_
 refine Br.of h (fun ht h => ?_) fun ht h => ?_
 ·refine sn <| sj <| sj <| sj <| bind_elim h fun x3 hx3 h => ?_
  refine ai rfl (xi (S_Expr.av x3) (ai (fun hg => S_Expr.av_eq x3 ▸ idx_map _ hx3) ?_))
  refine NormE.to (ii (x3.Kids.length : Int)) (fun _ => len_list S_Expr.avR x3.Kids) <| NormE.to (ii (s1.length : Int)) (fun _ => len_list S_Expr.avR s1) <| sn ?_
  refine Br.of h (fun ht h => ?_) fun ht h => ?_
  ·refine sj <| sn ?_
   replace h := oi h
   replace h := hr1 _ h.symm
   refine RetE.plain ?_
   subst h; exact ai rfl (ai rfl rfl)
  ·refine sn <| bind_elim h fun x4 hx4 h => ?_
   refine ai rfl (xi (S_Expr.av x4) (ai (fun hg => S_Expr.av_eq x4 ▸ idx_map _ hx4) ?_))
   refine bind_elim h fun x5 hx5 h => ?_
   have qx5 := (app_some hx5).1
   have hx5e := (app_some hx5).2
   refine ai ⟨rfl, rfl, rfl⟩ <| ai rfl <| ai (app_cond S_Expr.avR qx5) <| NormE.to (AV.list 5 (x5.map S_Expr.avR)) (fun _ => (app_list 5 S_Expr.avR _ _).trans (congrArg (fun y => AV.list 5 (List.map S_Expr.avR y)) hx5e.symm)) ?_
   refine SeqN.via (St.of [⟨3, AV.list 5 (x5.map S_Expr.avR), some 0⟩, ⟨4, ii s2, none⟩] [] [1]) ?_ ?_
   ·refine Gho.to _ _ _ [1] ?_ ?_ ?_ rfl rfl ?_
    ·exact trivial
    ·exact rfl
    ·exact rfl
    ·exact ⟨rfl, rfl, ⟨rfl, rfl, rfl⟩, rfl, rfl, trivial, trivial⟩
   replace h := oi h
   refine xi ⟨(n1, (x5, (IntKind.i64.wrap (s2 + (1 : Int))))), hl1 _ h.symm⟩ (ai (Nat.lt_succ_self _) ?_)
   refine Gho.to _ _ _ [0] ?_ ?_ ?_ rfl rfl ?_
   ·exact trivial
   ·exact rfl
   ·exact rfl
   ·exact ⟨rfl, rfl, ⟨rfl, rfl, rfl⟩, rfl, rfl, trivial, trivial⟩
 ·refine sn <| sj <| sn ?_
  replace h := oi h
  replace h := hr1 _ h.symm
  refine RetE.plain ?_
  subst h; exact ai rfl (ai rfl rfl)
theorem expr_row_ok (E : Pm.Env) [LaidE E] (a0 : S_Expr) (r : Bool) (h : expr_row a0 = some r) : FnR E Tryz.prog 68 [S_Expr.av a0] (bb r) false := by
 refine FnR.of_ev (T := T) (rows := []) tOk mixed Tryz.func68 rfl (by kernel_rfl) (by kernel_rfl) rfl fun hwf => ?_
 unfold expr_row at h
 refine sj <| ai rfl <| sn <| sj <| ai id <| ai id <| ai (fun hg => (and_r hg)) <| sn ?_
 replace h := oi h
 refine RetE.plain ?_
 subst h; exact ai rfl (ai rfl rfl)
theorem expr_deep_s_ok (E : Pm.Env) [LaidE E] (rec_expr_deep : S_Expr → Option Int) (rec_expr_deep_ok : ∀ (E : Pm.Env) [LaidE E] (a0 : S_Expr) (r : Int) (h : rec_expr_deep a0 = some r), FnR E Tryz.prog 45 [S_Expr.av a0] (ii r) false) (a0 : S_Expr) (r : Int) (h : expr_deep_s rec_expr_deep a0 = some r) : FnR E Tryz.prog 45 [S_Expr.av a0] (ii r) false := by
 refine FnR.of_ev (T := T) (rows := []) tOk mixed Tryz.func45 rfl (by kernel_rfl) (by kernel_rfl) rfl fun hwf => ?_
 unfold expr_deep_s at h
 refine sj <| ai rfl <| sn <| sj <| sn <| bind_elim h fun j1 hj1 h => ?_
 refine SeqJ.join (St.of [⟨1, AV.ptr 0 0, none⟩, ⟨3, ii j1, none⟩] [.cells 26 (S_Expr.cells a0) []] []) ?_ ?_
 ·clear h; have h := hj1; clear hj1
  refine sj <| NormE.to (ii (a0.Kids.length : Int)) (fun _ => len_list S_Expr.avR a0.Kids) <| sn ?_
  refine LoopE.img (fun x : (Int × Int) => St.of [⟨1, AV.ptr 0 0, none⟩, ⟨3, ii x.1, none⟩, ⟨8, AV.list 5 (a0.Kids.map S_Expr.avR), none⟩, ⟨9, ii (a0.Kids.length : Int), none⟩, ⟨10, ii x.2, none⟩] [.cells 26 (S_Expr.cells a0) []] []) (expr_deep_b1 rec_expr_deep a0) ((0 : Int), (0 : Int)) h ?_ ?_
  ·refine Gho.to _ _ _ [] ?_ ?_ ?_ rfl rfl ?_
   ·exact ⟨⟨rfl, rfl, rfl⟩, trivial⟩
   ·exact rfl
   ·exact rfl
   ·exact tr3 <| tr3 <| tr3 <| tr3 <| tr3 <| trivial
  intro n1 x y1 h hl1 hr1
  obtain ⟨s2, s3⟩ := x
  unfold expr_deep_b1 at h
  dsimp only at h
  refine sj <| sn <| sj ?_
  refine Br.of h (fun ht h => ?_) fun ht h => ?_
  ·refine sn <| sj <| sj <| bind_elim h fun x4 hx4 h => ?_
   refine ai rfl (xi (S_Expr.av x4) (ai (fun hg => S_Expr.av_eq x4 ▸ idx_map _ hx4) ?_))
   refine ai (lb rfl) <| NormE.to (S_Expr.av x4) (fun _ => rfl) <| ai rfl ?_
   refine ai ⟨rfl, rfl, rfl, lb rfl⟩ (xi (S_Expr.cells x4) (ai (fun _ => rfl) ?_))
   refine sn <| sj <| ai ⟨lb rfl, lb rfl⟩ <| NormE.to (S_Expr.av x4) (fun _ => rfl) <| bind_elim h fun x5 hx5 h => CallH.data _ false rfl (rec_expr_deep_ok E x4 x5 hx5) <| sn <| sj <| sj <| ai ⟨lb rfl, lb rfl⟩ <| NormE.to (S_Expr.av x4) (fun _ => rfl) <| bind_elim h fun x6 hx6 h => CallH.data _ false rfl (expr_row_ok E x4 x6 hx6) <| sn ?_
   refine Br.of h (fun ht h => ?_) fun ht h => ?_
   ·refine sn <| ai rfl ?_
    refine SeqN.via (St.of [⟨1, AV.ptr 0 0, none⟩, ⟨3, ii (imax s2 (IntKind.i64.wrap (x5 + (1 : Int)))), none⟩, ⟨8, AV.list 5 (a0.Kids.map S_Expr.avR), none⟩, ⟨9, ii (a0.Kids.length : Int), none⟩, ⟨10, ii s3, none⟩] [.cells 26 (S_Expr.cells a0) []] []) ?_ ?_
    ·refine Gho.to _ _ _ [] ?_ ?_ ?_ rfl rfl ?_
     ·exact ⟨⟨rfl, rfl, rfl⟩, trivial⟩
     ·exact rfl
     ·exact rfl
     ·exact tr3 <| tr3 <| tr3 <| tr3 <| tr3 <| trivial
    replace h := oi h
    refine xi ⟨(n1, ((imax s2 (IntKind.i64.wrap (x5 + (1 : Int)))), (IntKind.i64.wrap (s3 + (1 : Int))))), hl1 _ h.symm⟩ (ai (Nat.lt_succ_self _) ?_)
    refine Gho.to _ _ _ [] ?_ ?_ ?_ rfl rfl ?_
    ·exact ⟨⟨rfl, rfl, rfl⟩, trivial⟩
    ·exact rfl
    ·exact rfl
    ·exact tr3 <| tr3 <| tr3 <| tr3 <| tr3 <| trivial
   ·refine sn <| ai rfl <| sn ?_
    replace h := oi h
    refine xi ⟨(n1, ((imax s2 x5), (IntKind.i64.wrap (s3 + (1 : Int))))), hl1 _ h.symm⟩ (ai (Nat.lt_succ_self _) ?_)
    refine Gho.to _ _ _ [] ?_ ?_ ?_ rfl rfl ?_
    ·exact ⟨⟨rfl, rfl, rfl⟩, trivial⟩
    ·exact rfl
    ·exact rfl
    ·exact tr3 <| tr3 <| tr3 <| tr3 <| tr3 <| trivial
  ·replace h := oi h
   replace h := hr1 _ h.symm
   subst h
   refine Gho.to _ _ _ [] ?_ ?_ ?_ rfl rfl ?_
   ·exact ⟨⟨rfl, rfl, rfl⟩, trivial⟩
   ·exact rfl
   ·exact rfl
   ·exact tr3 <| tr3 <| trivial
 ·clear hj1
  refine sj <| sj <| sn ?_
  refine Br.of h (fun ht h => ?_) fun ht h => ?_
  ·refine sn <| sj <| sn ?_
   replace h := oi h
   refine RetE.plain ?_
   subst h; exact ai rfl (ai rfl rfl)
  ·refine sn <| sj <| sn ?_
   replace h := oi h
   refine RetE.plain ?_
   subst h; exact ai rfl (ai rfl rfl)
theorem expr_deep_r_ok (n : Nat) : ∀ (E : Pm.Env) [LaidE E] (a0 : S_Expr) (r : Int) (h : expr_deep_r n a0 = some r), FnR E Tryz.prog 45 [S_Expr.av a0] (ii r) false := by
 induction n with
 | zero => intro E _ a0 r h; cases (show none = some _ from h)
 | succ n ih => intro E _ a0 r h; exact expr_deep_s_ok E (expr_deep_r n) ih a0 r h
theorem expr_deep_ok (E : Pm.Env) [LaidE E] (a0 : S_Expr) (r : Int) (h : expr_deep a0 = some r) : FnR E Tryz.prog 45 [S_Expr.av a0] (ii r) false := expr_deep_r_ok 1000000 E a0 r h
theorem expr_Parse_ok (E : Pm.Env) [LaidE E] (a0 : Bytes) (r : (S_Expr × Int)) (h : expr_Parse a0 = some r) : FnR E Tryz.prog 23 [ss a0] (AV.tup [S_Expr.av r.1, ii r.2]) false := by
 refine FnR.of_ev (T := T) (rows := []) tOk mixed Tryz.func23 rfl (by kernel_rfl) (by kernel_rfl) rfl fun hwf => ?_
 unfold expr_Parse at h
 refine sj <| ai rfl <| sn <| sj <| sj <| NormE.same <| sn ?_
 refine Br.of h (fun ht h => ?_) fun ht h => ?_
 ·refine sj ?_
  refine xi (some 31) (ai (okM.mk (show (31 : Nat) = freeM T _ _ _ from by kernel_rfl)) ?_)
  refine ai ⟨rfl, rfl, rfl, lb rfl⟩ (xi [ii 0, ii 0, ss [], ss [], AV.list 5 (([] : List S_Expr).map S_Expr.avR)] (ai (fun _ => rfl) ?_))
  refine sn ?_
  replace h := oi h
  refine RetE.plain ?_
  refine ai ⟨lb rfl, lb rfl⟩ (xi (AV.agg [ii 0, ii 0, ss [], ss [], AV.list 5 (([] : List S_Expr).map S_Expr.avR)]) (ai rfl ?_))
  subst h; exact ai rfl (ai rfl rfl)
 ·refine sn <| sj <| ai ⟨rfl, rfl, lb rfl⟩ ?_
  refine xi none (ai trivial ?_)
  refine ai rfl <| sn <| sj <| bind_elim h fun x1 hx1 h => CallH.ren [1] [] [.cells 26 [ii 0, ii 0, ss [], ss [], AV.list 5 (([] : List S_Expr).map S_Expr.avR)] [(4, 0)], .cells 72 (S_expr_parser.cells x1.2) []] [2] (expr_parser_any_ok E (S_expr_parser.mk a0 false) x1.1 x1.2 hx1) rfl rfl rfl rfl rfl rfl rfl rfl rfl <| ai rfl ?_
  refine ai ⟨rfl, rfl, rfl, lb rfl⟩ (xi (S_Expr.cells x1.1) (ai (fun _ => rfl) ?_))
  refine sn <| sj <| bind_elim h fun x2 hx2 h => CallH.ren [1] [] [.cells 26 [ii 0, ii 0, ss [], ss [], AV.list 5 (([] : List S_Expr).map S_Expr.avR)] [(4, 0)], .cells 72 (S_expr_parser.cells x2.2) [], .cells 26 (S_Expr.cells x1.1) []] [2, 2] (expr_parser_blanks_ok E x1.2 x2.1 x2.2 hx2) rfl rfl rfl rfl rfl rfl rfl rfl rfl <| sn <| sj <| sj <| ai id <| ai id <| ai id <| ai id <| ai (fun hg => (and_r hg)) ?_
  refine SeqN.via (St.of [⟨2, AV.ptr 0 0, none⟩, ⟨5, AV.ptr 2 0, none⟩, ⟨17, bb (bif x2.2.bad then true else (!(x2.2.s == ([] : Bytes)))), none⟩] [.cells 26 [ii 0, ii 0, ss [], ss [], AV.list 5 (([] : List S_Expr).map S_Expr.avR)] [(4, 0)], .dead, .cells 26 (S_Expr.cells x1.1) []] [1]) ?_ ?_
  ·refine Gho.to _ _ _ [0] ?_ ?_ ?_ rfl rfl ?_
   ·exact ⟨⟨rfl, rfl, rfl⟩, ⟨trivial, ⟨⟨rfl, rfl, rfl⟩, trivial⟩⟩⟩
   ·exact rfl
   ·exact rfl
   ·exact tr3 <| tr3 <| tr3 <| trivial
  refine Br.of h (fun ht h => ?_) fun ht h => ?_
  ·refine sj ?_
   refine xi (some 31) (ai (okM.mk (show (31 : Nat) = freeM T _ _ _ from by kernel_rfl)) ?_)
   refine ai ⟨rfl, rfl, rfl, lb rfl⟩ (xi [ii 0, ii 0, ss [], ss [], AV.list 5 (([] : List S_Expr).map S_Expr.avR)] (ai (fun _ => rfl) ?_))
   refine sn ?_
   replace h := oi h
   refine RetE.plain ?_
   refine ai ⟨lb rfl, lb rfl⟩ (xi (AV.agg [ii 0, ii 0, ss [], ss [], AV.list 5 (([] : List S_Expr).map S_Expr.avR)]) (ai rfl ?_))
   subst h; exact ai rfl (ai rfl rfl)
  ·refine sj <| ai ⟨lb rfl, lb rfl⟩ <| NormE.to (S_Expr.av x1.1) (fun _ => rfl) <| bind_elim h fun x3 hx3 h => CallH.data _ false rfl (expr_few_ok E x1.1 x3 hx3) <| sn ?_
   refine Br.of h (fun ht h => ?_) fun ht h => ?_
   ·refine sj ?_
    refine xi (some 31) (ai (okM.mk (show (31 : Nat) = freeM T _ _ _ from by kernel_rfl)) ?_)
    refine ai ⟨rfl, rfl, rfl, lb rfl⟩ (xi [ii 0, ii 0, ss [], ss [], AV.list 5 (([] : List S_Expr).map S_Expr.avR)] (ai (fun _ => rfl) ?_))
    refine sn ?_
    replace h := oi h
    refine RetE.plain ?_
    refine ai ⟨lb rfl, lb rfl⟩ (xi (AV.agg [ii 0, ii 0, ss [], ss [], AV.list 5 (([] : List S_Expr).map S_Expr.avR)]) (ai rfl ?_))
    subst h; exact ai rfl (ai rfl rfl)
   ·refine sj <| ai ⟨lb rfl, lb rfl⟩ <| NormE.to (S_Expr.av x1.1) (fun _ => rfl) <| bind_elim h fun x4 hx4 h => CallH.data _ false rfl (expr_deep_ok E x1.1 x4 hx4) <| sn ?_
    refine Br.of h (fun ht h => ?_) fun ht h => ?_
    ·refine sj ?_
     refine xi (some 31) (ai (okM.mk (show (31 : Nat) = freeM T _ _ _ from by kernel_rfl)) ?_)
     refine ai ⟨rfl, rfl, rfl, lb rfl⟩ (xi [ii 0, ii 0, ss [], ss [], AV.list 5 (([] : List S_Expr).map S_Expr.avR)] (ai (fun _ => rfl) ?_))
     refine sn ?_
     replace h := oi h
     refine RetE.plain ?_
     refine ai ⟨lb rfl, lb rfl⟩ (xi (AV.agg [ii 0, ii 0, ss [], ss [], AV.list 5 (([] : List S_Expr).map S_Expr.avR)]) (ai rfl ?_))
     subst h; exact ai rfl (ai rfl rfl)
    ·refine sn <| sj <| ai ⟨lb rfl, lb rfl⟩ <| NormE.to (S_Expr.av x1.1) (fun _ => rfl) ?_
     refine ai ⟨rfl, rfl, rfl, lb rfl⟩ (xi (S_Expr.cells x1.1) (ai (fun _ => rfl) ?_))
     refine sn ?_
     replace h := oi h
     refine RetE.plain ?_
     refine ai ⟨lb rfl, lb rfl⟩ (xi (S_Expr.av x1.1) (ai rfl ?_))
     subst h; exact ai rfl (ai rfl rfl)
theorem expr_simple_ok (E : Pm.Env) [LaidE E] (a0 : S_Expr) (r : Bool) (h : expr_simple a0 = some r) : FnR E Tryz.prog 70 [S_Expr.av a0] (bb r) false := by
 refine FnR.of_ev (T := T) (rows := []) tOk mixed Tryz.func70 rfl (by kernel_rfl) (by kernel_rfl) rfl fun hwf => ?_
 unfold expr_simple at h
 refine sj <| ai rfl <| sn <| sj <| ai id <| ai id <| ai (fun hg => (and_r hg)) <| ai id <| ai id <| ai (fun hg => (and_r hg)) ?_
 refine SeqN.via (St.of [⟨2, bb (bif (bif (a0.Kind == (1 : Int)) then true else (a0.Kind == (2 : Int))) then true else (a0.Kind == (3 : Int))), none⟩] [] []) ?_ ?_
 ·refine Gho.to _ _ _ [] ?_ ?_ ?_ rfl rfl ?_
  ·exact trivial
  ·exact rfl
  ·exact rfl
  ·exact tr3 <| trivial
 replace h := oi h
 refine RetE.plain ?_
 subst h; exact ai rfl (ai rfl rfl)
theorem expr_leaf_ok (E : Pm.Env) [LaidE E] (a0 : S_Expr) (r : Bool) (h : expr_leaf a0 = some r) : FnR E Tryz.prog 71 [S_Expr.av a0] (bb r) false := by
 refine FnR.of_ev (T := T) (rows := []) tOk mixed Tryz.func71 rfl (by kernel_rfl) (by kernel_rfl) rfl fun hwf => ?_
 unfold expr_leaf at h
 refine sj <| ai rfl <| sn <| sj <| sj <| ai id <| ai id <| NormE.to (ii (a0.Kids.length : Int)) (fun _ => len_list S_Expr.avR a0.Kids) <| ai id <| ai (fun hg => (and_r hg)) <| sn ?_
 refine Br.of h (fun ht h => ?_) fun ht h => ?_
 ·refine sj <| sn ?_
  replace h := oi h
  refine RetE.plain ?_
  subst h; exact ai rfl (ai rfl rfl)
 ·refine sn <| sj <| sj <| sn <| sj <| sn ?_
  refine Br.of h (fun ht h => ?_) fun ht h => ?_
  ·refine sj <| ai id <| ai id <| ai (fun hg => (and_r hg)) <| ai id <| ai id <| ai (fun hg => (and_r hg)) ?_
   refine SeqN.via (St.of [⟨2, bb (bif (bif (a0.Text == ([] : Bytes)) then (decide (a0.N ≥ (-1099511627776 : Int))) else false) then (decide (a0.N ≤ (1099511627776 : Int))) else false), none⟩] [] []) ?_ ?_
   ·refine Gho.to _ _ _ [] ?_ ?_ ?_ rfl rfl ?_
    ·exact trivial
    ·exact rfl
    ·exact rfl
    ·exact tr3 <| trivial
   replace h := oi h
   refine RetE.plain ?_
   subst h; exact ai rfl (ai rfl rfl)
  ·refine sj ?_
   refine SeqN.via (St.of [⟨1, AV.ptr 0 0, none⟩, ⟨31, bb (a0.Kind == (2 : Int)), none⟩] [.cells 26 (S_Expr.cells a0) []] []) ?_ ?_
   ·refine Gho.to _ _ _ [] ?_ ?_ ?_ rfl rfl ?_
    ·exact ⟨⟨rfl, rfl, rfl⟩, trivial⟩
    ·exact rfl
    ·exact rfl
    ·exact tr3 <| tr3 <| trivial
   refine Br.of h (fun ht h => ?_) fun ht h => ?_
   ·refine sj <| ai id <| bind_elim h fun x1 hx1 h => ai id <| ai rfl ?_
    refine CallF.mk _ false (fun hg => strings_Contains_ok E a0.Text ([39] : Bytes) x1 (gcall_some hx1 hg)) (ai rfl ?_)
    refine ai id <| ai (fun hg => (and_r hg)) <| sn ?_
    replace h := oi h
    refine RetE.plain ?_
    subst h; exact ai rfl (ai rfl rfl)
   ·refine sn <| sj ?_
    refine xi none (ai trivial ?_)
    refine bind_elim h fun x2 hx2 h => CallH.data _ false rfl (vars_Ref_ok E (S_Env.mk ([] : Bytes) ([] : Bytes) ([] : Bytes) ([] : Bytes) ([] : Bytes) ([] : Bytes)) a0.Text x2 hx2) <| sn <| sj <| ai id <| ai (fun hg => (and_r hg)) <| ai id <| ai id <| NormE.same <| ai id <| ai id <| ai (fun hg => (and_r hg)) ?_
    refine SeqN.via (St.of [⟨2, bb (bif (bif (a0.N == (0 : Int)) then (decide (x2.2 > (0 : Int))) else false) then (x2.2 == (a0.Text.length : Int)) else false), none⟩] [] []) ?_ ?_
    ·refine Gho.to _ _ _ [] ?_ ?_ ?_ rfl rfl ?_
     ·exact trivial
     ·exact rfl
     ·exact rfl
     ·exact tr3 <| trivial
    replace h := oi h
    refine RetE.plain ?_
    subst h; exact ai rfl (ai rfl rfl)
theorem slices_IndexFunc__api_Expr_api_Expr_ok (E : Pm.Env) [LaidE E] (a0 : (List S_Expr)) (a1 : FuncId) (a1c : List AV) (a1i : S_Expr → Option Bool) (a1h : ∀ (x0 : S_Expr) (r : Bool), a1i x0 = some r → FnR E Tryz.prog a1 ([S_Expr.av x0] ++ a1c) (bb r) false) (a1p : a1c.all AV.puB = true) (r : Int) (h : slices_IndexFunc__api_Expr_api_Expr a0 a1i = some r) : FnR E Tryz.prog 81 [AV.list 5 (a0.map S_Expr.avR), AV.fn a1 [] a1c] (ii r) false := by
 refine FnR.of_ev (T := T) (rows := []) tOk mixed Tryz.func81 rfl (by kernel_rfl) (by kernel_rfl) rfl fun hwf => ?_
 unfold slices_IndexFunc__api_Expr_api_Expr at h
 refine sj <| sn <| sj <| sj <| NormE.to (ii (a0.length : Int)) (fun _ => len_list S_Expr.avR a0) <| sn ?_
 refine LoopE.img (fun x : Int => St.of [⟨0, AV.list 5 (a0.map S_Expr.avR), none⟩, ⟨1, AV.fn a1 [] a1c, none⟩, ⟨7, ii (a0.length : Int), none⟩, ⟨8, ii x, none⟩] [] []) (slices_IndexFunc__api_Expr_api_Expr_b1 a0 a1i) (0 : Int) h ?_ ?_
 ·refine Gho.to _ _ _ [] ?_ ?_ ?_ rfl rfl ?_
  ·exact trivial
  ·exact rfl
  ·exact rfl
  ·exact ⟨rfl, rfl, trivial, rfl, (noB_fn a1p _), trivial, rfl, rfl, trivial, rfl, rfl, trivial, trivial⟩
 intro n1 x y1 h hl1 hr1
 revert h; revert x; intro s1 h
 unfold slices_IndexFunc__api_Expr_api_Expr_b1 at h
 refine sj <| sn <| sj ?_
 refine Br.of h (fun ht h => ?_) fun ht h => ?_
 ·refine sn <| sj <| sj <| sn <| sj <| bind_elim h fun x2 hx2 h => ?_
  refine ai rfl (xi (S_Expr.av x2) (ai (fun hg => S_Expr.av_eq x2 ▸ idx_map _ hx2) ?_))
  refine ai (lb rfl) <| NormE.to (S_Expr.av x2) (fun _ => rfl) <| bind_elim h fun x3 hx3 h => CallH.data _ false (puD_app rfl (puD_of a1p)) (a1h x2 x3 hx3) <| sn ?_
  refine Br.of h (fun ht h => ?_) fun ht h => ?_
  ·refine sj <| sn ?_
   replace h := oi h
   replace h := hr1 _ h.symm
   refine RetE.plain ?_
   subst h; exact ai rfl (ai rfl rfl)
  ·refine sn ?_
   replace h := oi h
   refine xi ⟨(n1, (IntKind.i64.wrap (s1 + (1 : Int)))), hl1 _ h.symm⟩ (ai (Nat.lt_succ_self _) ?_)
   refine Gho.to _ _ _ [] ?_ ?_ ?_ rfl rfl ?_
   ·exact trivial
   ·exact rfl
   ·exact rfl
   ·exact ⟨rfl, rfl, trivial, rfl, (noB_fn a1p _), trivial, rfl, rfl, trivial, rfl, rfl, trivial, trivial⟩
 ·refine sn <| sj <| sn ?_
  replace h := oi h
  replace h := hr1 _ h.symm
  refine RetE.plain ?_
  subst h; exact ai rfl (ai rfl rfl)
theorem slices_ContainsFunc__api_Expr_api_Expr_ok (E : Pm.Env) [LaidE E] (a0 : (List S_Expr)) (a1 : FuncId) (a1c : List AV) (a1i : S_Expr → Option Bool) (a1h : ∀ (x0 : S_Expr) (r : Bool), a1i x0 = some r → FnR E Tryz.prog a1 ([S_Expr.av x0] ++ a1c) (bb r) false) (a1p : a1c.all AV.puB = true) (r : Bool) (h : slices_ContainsFunc__api_Expr_api_Expr a0 a1i = some r) : FnR E Tryz.prog 55 [AV.list 5 (a0.map S_Expr.avR), AV.fn a1 [] a1c] (bb r) false := by
 refine FnR.of_ev (T := T) (rows := []) tOk mixed Tryz.func55 rfl (by kernel_rfl) (by kernel_rfl) rfl fun hwf => ?_
 unfold slices_ContainsFunc__api_Expr_api_Expr at h
 refine sj <| sn <| sj <| bind_elim h fun x1 hx1 h => CallH.data _ false (and_tt' rfl (and_tt' (puD_fn a1p) rfl)) (slices_IndexFunc__api_Expr_api_Expr_ok E a0 a1 a1c a1i a1h a1p x1 hx1) <| sn ?_
 replace h := oi h
 refine RetE.plain ?_
 subst h; exact ai rfl (ai rfl rfl)
theorem expr_well_1_ok (E : Pm.Env) [LaidE E] (rec_expr_well : S_Expr → Option Bool) (rec_expr_well_ok : ∀ (E : Pm.Env) [LaidE E] (a0 : S_Expr) (r : Bool) (h : rec_expr_well a0 = some r), FnR E Tryz.prog 47 [S_Expr.av a0] (bb r) false) (a0 : S_Expr) (r : Bool) (h : expr_well_1 rec_expr_well a0 = some r) : FnR E Tryz.prog 72 [S_Expr.av a0] (bb r) false := by
 refine FnR.of_ev (T := T) (rows := []) tOk mixed Tryz.func72 rfl (by kernel_rfl) (by kernel_rfl) rfl fun hwf => ?_
 unfold expr_well_1 at h
 refine sj <| ai rfl <| sn <| sj <| ai ⟨lb rfl, lb rfl⟩ <| NormE.to (S_Expr.av a0) (fun _ => rfl) <| bind_elim h fun x1 hx1 h => CallH.data _ false rfl (rec_expr_well_ok E a0 x1 hx1) <| sn ?_
 replace h := oi h
 refine RetE.plain ?_
 subst h; exact ai rfl (ai rfl rfl)
theorem expr_well_s_ok (E : Pm.Env) [LaidE E] (rec_expr_well : S_Expr → Option Bool) (rec_expr_well_ok : ∀ (E : Pm.Env) [LaidE E] (a0 : S_Expr) (r : Bool) (h : rec_expr_well a0 = some r), FnR E Tryz.prog 47 [S_Expr.av a0] (bb r) false) (a0 : S_Expr) (r : Bool) (h : expr_well_s rec_expr_well a0 = some r) : FnR E Tryz.prog 47 [S_Expr.av a0] (bb r) false := by
 refine FnR.of_ev (T := T) (rows := []) tOk mixed Tryz.func47 rfl (by kernel_rfl) (by kernel_rfl) rfl fun hwf => ?_
 unfold expr_well_s at h
 refine sj <| ai rfl <| sn <| sj <| sj <| ai ⟨lb rfl, lb rfl⟩ <| NormE.to (S_Expr.av a0) (fun _ => rfl) <| bind_elim h fun x1 hx1 h => CallH.data _ false rfl (expr_simple_ok E a0 x1 hx1) <| sn ?_
 refine Br.of h (fun ht h => ?_) fun ht h => ?_
 ·refine sj <| ai ⟨lb rfl, lb rfl⟩ <| NormE.to (S_Expr.av a0) (fun _ => rfl) <| bind_elim h fun x2 hx2 h => CallH.data _ false rfl (expr_leaf_ok E a0 x2 hx2) <| sn ?_
  replace h := oi h
  refine RetE.plain ?_
  subst h; exact ai rfl (ai rfl rfl)
 ·refine sn <| sj <| sj <| ai id <| ai id <| ai (fun hg => (and_r hg)) <| ai id <| bind_elim h fun x3 hx3 h => ai id <| ai rfl ?_
  refine CallF.mk _ false (fun hg => slices_ContainsFunc__api_Expr_api_Expr_ok E a0.Kids 72 [] (fun x0 => expr_well_1 rec_expr_well x0) (fun x0 r h => expr_well_1_ok E rec_expr_well rec_expr_well_ok x0 r h) rfl x3 (gcall_some hx3 hg)) (ai rfl ?_)
  refine ai (fun hg => (and_r hg)) ?_
  refine SeqN.via (St.of [⟨1, AV.ptr 0 0, none⟩, ⟨20, bb (bif (bif (a0.N != (0 : Int)) then true else (!(a0.Text == ([] : Bytes)))) then true else x3), none⟩] [.cells 26 (S_Expr.cells a0) []] []) ?_ ?_
  ·refine Gho.to _ _ _ [] ?_ ?_ ?_ rfl rfl ?_
   ·exact ⟨⟨rfl, rfl, rfl⟩, trivial⟩
   ·exact rfl
   ·exact rfl
   ·exact tr3 <| tr3 <| trivial
  refine Br.of h (fun ht h => ?_) fun ht h => ?_
  ·refine sj <| sn ?_
   replace h := oi h
   refine RetE.plain ?_
   subst h; exact ai rfl (ai rfl rfl)
  ·refine sn <| sj <| NormE.to (ii (a0.Kids.length : Int)) (fun _ => len_list S_Expr.avR a0.Kids) <| sn <| sj <| sj <| sn <| sj <| sn ?_
   refine Br.of h (fun ht h => ?_) fun ht h => ?_
   ·refine sj <| Or.inl <| bind_elim h fun x4 hx4 h => CallH.data _ true rfl (expr_signs_ok E  x4 hx4) <| bind_elim h fun x5 hx5 h => CallH.data _ false rfl (slices_Contains__string_string_ok E x4 a0.Sign x5 hx5) <| ai id <| ai (fun hg => (and_r hg)) <| ai id <| bind_elim h fun x6 hx6 h => ai id ?_
    refine ai rfl (xi (S_Expr.av x6) (ai (fun hg => S_Expr.av_eq x6 ▸ gidx_map _ hx6 hg) ?_))
    refine ai id <| ai (lb rfl) <| NormE.to (S_Expr.av x6) (fun _ => rfl) <| bind_elim h fun x7 hx7 h => ai id <| ai rfl ?_
    refine CallF.mk _ false (fun hg => expr_simple_ok E x6 x7 (gcall_some hx7 hg)) (ai rfl ?_)
    refine ai (fun hg => (and_r hg)) <| ai id <| bind_elim h fun x8 hx8 h => ai id ?_
    refine ai rfl (xi (S_Expr.av x8) (ai (fun hg => S_Expr.av_eq x8 ▸ gidx_map _ hx8 hg) ?_))
    refine ai id <| ai (lb rfl) <| NormE.to (S_Expr.av x8) (fun _ => rfl) <| bind_elim h fun x9 hx9 h => ai id <| ai rfl ?_
    refine CallF.mk _ false (fun hg => expr_simple_ok E x8 x9 (gcall_some hx9 hg)) (ai rfl ?_)
    refine ai (fun hg => (and_r hg)) <| ai (by kernel_rfl) ?_
    refine SeqN.via (St.of [⟨2, bb (bif (bif (bif x5 then ((a0.Kids.length : Int) == (2 : Int)) else false) then x7 else false) then x9 else false), none⟩] [] []) ?_ ?_
    ·refine Gho.to _ _ _ [] ?_ ?_ ?_ rfl rfl ?_
     ·exact trivial
     ·exact rfl
     ·exact rfl
     ·exact tr3 <| trivial
    replace h := oi h
    refine RetE.plain ?_
    subst h; exact ai rfl (ai rfl rfl)
   ·refine sj <| sn ?_
    refine Br.of h (fun ht h => ?_) fun ht h => ?_
    ·refine sj <| ai id <| ai (fun hg => (and_r hg)) ?_
     refine SeqN.via (St.of [⟨2, bb (bif (a0.Sign == ([] : Bytes)) then ((a0.Kids.length : Int) == (1 : Int)) else false), none⟩] [] []) ?_ ?_
     ·refine Gho.to _ _ _ [] ?_ ?_ ?_ rfl rfl ?_
      ·exact trivial
      ·exact rfl
      ·exact rfl
      ·exact tr3 <| trivial
     replace h := oi h
     refine RetE.plain ?_
     subst h; exact ai rfl (ai rfl rfl)
    ·refine sj <| sj <| sn ?_
     refine Br.of h (fun ht h => ?_) fun ht h => ?_
     ·refine sn ?_
      refine Br.of h (fun ht h => ?_) fun ht h => ?_
      ·refine sj <| ai id <| ai (fun hg => (and_r hg)) ?_
       refine SeqN.via (St.of [⟨2, bb (bif (a0.Sign == ([] : Bytes)) then (decide ((a0.Kids.length : Int) ≥ (2 : Int))) else false), none⟩] [] []) ?_ ?_
       ·refine Gho.to _ _ _ [] ?_ ?_ ?_ rfl rfl ?_
        ·exact trivial
        ·exact rfl
        ·exact rfl
        ·exact tr3 <| trivial
       replace h := oi h
       refine RetE.plain ?_
       subst h; exact ai rfl (ai rfl rfl)
      ·refine sn <| sj <| sn ?_
       replace h := oi h
       refine RetE.plain ?_
       subst h; exact ai rfl (ai rfl rfl)
     ·refine sn ?_
      refine Br.of h (fun ht h => ?_) fun ht h => ?_
      ·refine sj <| ai id <| ai (fun hg => (and_r hg)) ?_
       refine SeqN.via (St.of [⟨2, bb (bif (a0.Sign == ([] : Bytes)) then (decide ((a0.Kids.length : Int) ≥ (2 : Int))) else false), none⟩] [] []) ?_ ?_
       ·refine Gho.to _ _ _ [] ?_ ?_ ?_ rfl rfl ?_
        ·exact trivial
        ·exact rfl
        ·exact rfl
        ·exact tr3 <| trivial
       replace h := oi h
       refine RetE.plain ?_
       subst h; exact ai rfl (ai rfl rfl)
      ·refine sn <| sj <| sn ?_
       replace h := oi h
       refine RetE.plain ?_
       subst h; exact ai rfl (ai rfl rfl)
theorem expr_well_r_ok (n : Nat) : ∀ (E : Pm.Env) [LaidE E] (a0 : S_Expr) (r : Bool) (h : expr_well_r n a0 = some r), FnR E Tryz.prog 47 [S_Expr.av a0] (bb r) false := by
 induction n with
 | zero => intro E _ a0 r h; cases (show none = some _ from h)
 | succ n ih => intro E _ a0 r h; exact expr_well_s_ok E (expr_well_r n) ih a0 r h
theorem expr_well_ok (E : Pm.Env) [LaidE E] (a0 : S_Expr) (r : Bool) (h : expr_well a0 = some r) : FnR E Tryz.prog 47 [S_Expr.av a0] (bb r) false := expr_well_r_ok 1000000 E a0 r h
theorem expr_Right_ok (E : Pm.Env) [LaidE E] (a0 : S_Expr) (r : Bool) (h : expr_Right a0 = some r) : FnR E Tryz.prog 26 [S_Expr.av a0] (bb r) false := by
 refine FnR.of_ev (T := T) (rows := []) tOk mixed Tryz.func26 rfl (by kernel_rfl) (by kernel_rfl) rfl fun hwf => ?_
 unfold expr_Right at h
 refine sj <| ai rfl <| sn <| sj <| ai ⟨lb rfl, lb rfl⟩ <| NormE.to (S_Expr.av a0) (fun _ => rfl) <| bind_elim h fun x1 hx1 h => CallH.data _ false rfl (expr_few_ok E a0 x1 hx1) <| ai ⟨lb rfl, lb rfl⟩ <| NormE.to (S_Expr.av a0) (fun _ => rfl) <| bind_elim h fun x2 hx2 h => ai id <| ai rfl ?_
 refine CallF.mk _ false (fun hg => expr_well_ok E a0 x2 (gcall_some hx2 hg)) (ai rfl ?_)
 refine ai (fun hg => (and_r hg)) <| ai ⟨lb rfl, lb rfl⟩ <| NormE.to (S_Expr.av a0) (fun _ => rfl) <| bind_elim h fun x3 hx3 h => ai id <| ai rfl ?_
 refine CallF.mk _ false (fun hg => expr_deep_ok E a0 x3 (gcall_some hx3 hg)) (ai rfl ?_)
 refine ai id <| ai (fun hg => (and_r hg)) <| sn ?_
 replace h := oi h
 refine RetE.plain ?_
 subst h; exact ai rfl (ai rfl rfl)
theorem expr_holds_2_ok (E : Pm.Env) [LaidE E] (rec_expr_holds : S_Env → S_Expr → Option Bool) (rec_expr_holds_ok : ∀ (E : Pm.Env) [LaidE E] (a0 : S_Env) (a1 : S_Expr) (r : Bool) (h : rec_expr_holds a0 a1 = some r), FnR E Tryz.prog 34 [S_Env.av a0, S_Expr.av a1] (bb r) false) (a0 : S_Expr) (c0 : S_Env) (r : Bool) (h : expr_holds_2 rec_expr_holds a0 c0 = some r) : FnR E Tryz.prog 54 [S_Expr.av a0, AV.iptr (S_Env.cells c0)] (bb r) false := by
 refine FnR.of_ev (T := T) (rows := []) tOk mixed Tryz.func54 rfl (by kernel_rfl) (by kernel_rfl) rfl fun hwf => ?_
 unfold expr_holds_2 at h
 refine sj <| ai rfl <| sn <| sj <| ai (lb rfl) <| NormE.to (S_Env.av c0) (fun _ => rfl) <| ai ⟨lb rfl, lb rfl⟩ <| NormE.to (S_Expr.av a0) (fun _ => rfl) <| bind_elim h fun x1 hx1 h => CallH.data _ false rfl (rec_expr_holds_ok E c0 a0 x1 hx1) <| sn ?_
 replace h := oi h
 refine RetE.plain ?_
 subst h; exact ai rfl (ai rfl rfl)
theorem expr_holds_1_ok (E : Pm.Env) [LaidE E] (rec_expr_holds : S_Env → S_Expr → Option Bool) (rec_expr_holds_ok : ∀ (E : Pm.Env) [LaidE E] (a0 : S_Env) (a1 : S_Expr) (r : Bool) (h : rec_expr_holds a0 a1 = some r), FnR E Tryz.prog 34 [S_Env.av a0, S_Expr.av a1] (bb r) false) (a0 : S_Expr) (c0 : S_Env) (r : Bool) (h : expr_holds_1 rec_expr_holds a0 c0 = some r) : FnR E Tryz.prog 53 [S_Expr.av a0, AV.iptr (S_Env.cells c0)] (bb r) false := by
 refine FnR.of_ev (T := T) (rows := []) tOk mixed Tryz.func53 rfl (by kernel_rfl) (by kernel_rfl) rfl fun hwf => ?_
 unfold expr_holds_1 at h
 refine sj <| ai rfl <| sn <| sj <| ai (lb rfl) <| NormE.to (S_Env.av c0) (fun _ => rfl) <| ai ⟨lb rfl, lb rfl⟩ <| NormE.to (S_Expr.av a0) (fun _ => rfl) <| bind_elim h fun x1 hx1 h => CallH.data _ false rfl (rec_expr_holds_ok E c0 a0 x1 hx1) <| sn ?_
 replace h := oi h
 refine RetE.plain ?_
 subst h; exact ai rfl (ai rfl rfl)
theorem number_Dec_ok (E : Pm.Env) [LaidE E] (a0 : Int) (r : Bytes) (h : number_Dec a0 = some r) : FnR E Tryz.prog 69 [AV.int .u64 a0] (ss r) false := by
 refine FnR.of_ev (T := T) (rows := []) tOk mixed Tryz.func69 rfl (by kernel_rfl) (by kernel_rfl) rfl fun hwf => ?_
 unfold number_Dec at h
 refine sj <| sn <| sj <| bind_elim h fun x1 hx1 h => CallH.data _ false rfl (strconv_FormatUint_ok E a0 (10 : Int) x1 hx1) <| sn ?_
 replace h := oi h
 refine RetE.plain ?_
 subst h; exact ai rfl (ai rfl rfl)
theorem expr_write_s_ok (E : Pm.Env) [LaidE E] (rec_expr_write : S_Expr → Option Bytes) (rec_expr_write_ok : ∀ (E : Pm.Env) [LaidE E] (a0 : S_Expr) (r : Bytes) (h : rec_expr_write a0 = some r), FnR E Tryz.prog 46 [S_Expr.av a0] (ss r) false) (a0 : S_Expr) (r : Bytes) (h : expr_write_s rec_expr_write a0 = some r) : FnR E Tryz.prog 46 [S_Expr.av a0] (ss r) false := by
 refine FnR.of_ev (T := T) (rows := []) tOk mixed Tryz.func46 rfl (by kernel_rfl) (by kernel_rfl) rfl fun hwf => ?_
 unfold expr_write_s at h
 refine sj <| ai rfl <| sn <| sj <| sn <| bind_elim h fun j1 hj1 h => ?_
 refine SeqJ.join (St.of [⟨1, AV.ptr 0 0, none⟩, ⟨3, AV.list 1 (j1.map AV.str), some 0⟩] [.cells 26 (S_Expr.cells a0) []] [1]) ?_ ?_
 ·clear h; have h := hj1; clear hj1
  refine sj <| NormE.to (ii (a0.Kids.length : Int)) (fun _ => len_list S_Expr.avR a0.Kids) <| sn ?_
  refine LoopE.img (fun x : ((List Bytes) × Int) => St.of [⟨1, AV.ptr 0 0, none⟩, ⟨3, AV.list 1 (x.1.map AV.str), some 0⟩, ⟨8, AV.list 5 (a0.Kids.map S_Expr.avR), none⟩, ⟨9, ii (a0.Kids.length : Int), none⟩, ⟨10, ii x.2, none⟩] [.cells 26 (S_Expr.cells a0) []] [1]) (expr_write_b1 rec_expr_write a0) (([] : List Bytes), (0 : Int)) h ?_ ?_
  ·refine Gho.to _ _ _ [0] ?_ ?_ ?_ rfl rfl ?_
   ·exact ⟨⟨rfl, rfl, rfl⟩, trivial⟩
   ·exact rfl
   ·exact rfl
   ·exact ⟨rfl, rfl, trivial, rfl, rfl, ⟨rfl, rfl, rfl⟩, rfl, rfl, trivial, rfl, rfl, trivial, rfl, rfl, trivial, trivial⟩
  intro n1 x y1 h hl1 hr1
  obtain ⟨s2, s3⟩ := x
  unfold expr_write_b1 at h
  dsimp only at h
  refine sj <| sn <| sj ?_
  refine Br.of h (fun ht h => ?_) fun ht h => ?_
  ·refine sn <| sj <| sj <| bind_elim h fun x4 hx4 h => ?_
   refine ai rfl (xi (S_Expr.av x4) (ai (fun hg => S_Expr.av_eq x4 ▸ idx_map _ hx4) ?_))
   refine ai (lb rfl) <| NormE.to (S_Expr.av x4) (fun _ => rfl) <| ai rfl ?_
   refine ai ⟨rfl, rfl, rfl, lb rfl⟩ (xi (S_Expr.cells x4) (ai (fun _ => rfl) ?_))
   refine sn <| sj <| ai ⟨lb rfl, lb rfl⟩ <| NormE.to (S_Expr.av x4) (fun _ => rfl) <| bind_elim h fun x5 hx5 h => CallH.data _ false rfl (rec_expr_write_ok E x4 x5 hx5) <| sn <| sj <| sj <| ai ⟨lb rfl, lb rfl⟩ <| NormE.to (S_Expr.av x4) (fun _ => rfl) <| bind_elim h fun x6 hx6 h => CallH.data _ false rfl (expr_row_ok E x4 x6 hx6) <| sn ?_
   refine Br.of h (fun ht h => ?_) fun ht h => ?_
   ·refine bind_elim h fun x7 hx7 h => ?_
    have hx7c := (cat_some hx7).1
    have hx7e := (cat_some hx7).2
    refine ai (fun _ => hx7c) <| NormE.to (ss x7) (fun _ => congrArg ss hx7e.symm) <| bind_elim h fun x8 hx8 h => ?_
    have hx8c := (cat_some hx8).1
    have hx8e := (cat_some hx8).2
    refine ai (fun _ => hx8c) <| NormE.to (ss x8) (fun _ => congrArg ss hx8e.symm) <| sn <| ai ⟨rfl, rfl, rfl, rfl⟩ <| ai ⟨rfl, rfl, rfl⟩ <| NormE.to (AV.list 1 (([x8] : List Bytes).map AV.str)) (fun _ => rfl) <| bind_elim h fun x9 hx9 h => ?_
    have qx9 := (app_some hx9).1
    have hx9e := (app_some hx9).2
    refine ai ⟨rfl, rfl, rfl⟩ <| ai rfl <| ai (app_cond ss qx9) <| NormE.to (AV.list 1 (x9.map AV.str)) (fun _ => (app_list 1 ss _ _).trans (congrArg (fun y => AV.list 1 (List.map ss y)) hx9e.symm)) ?_
    refine SeqN.via (St.of [⟨1, AV.ptr 0 0, none⟩, ⟨3, AV.list 1 (x9.map AV.str), some 0⟩, ⟨8, AV.list 5 (a0.Kids.map S_Expr.avR), none⟩, ⟨9, ii (a0.Kids.length : Int), none⟩, ⟨10, ii s3, none⟩] [.cells 26 (S_Expr.cells a0) []] [1]) ?_ ?_
    ·refine Gho.to _ _ _ [3] ?_ ?_ ?_ rfl rfl ?_
     ·exact ⟨⟨rfl, rfl, rfl⟩, trivial⟩
     ·exact rfl
     ·exact rfl
     ·exact ⟨rfl, rfl, trivial, rfl, rfl, ⟨rfl, rfl, rfl⟩, rfl, rfl, trivial, rfl, rfl, trivial, rfl, rfl, trivial, trivial⟩
    replace h := oi h
    refine xi ⟨(n1, (x9, (IntKind.i64.wrap (s3 + (1 : Int))))), hl1 _ h.symm⟩ (ai (Nat.lt_succ_self _) ?_)
    refine Gho.to _ _ _ [0] ?_ ?_ ?_ rfl rfl ?_
    ·exact ⟨⟨rfl, rfl, rfl⟩, trivial⟩
    ·exact rfl
    ·exact rfl
    ·exact ⟨rfl, rfl, trivial, rfl, rfl, ⟨rfl, rfl, rfl⟩, rfl, rfl, trivial, rfl, rfl, trivial, rfl, rfl, trivial, trivial⟩
   ·refine sn <| ai ⟨rfl, rfl, rfl, rfl⟩ <| ai ⟨rfl, rfl, rfl⟩ <| NormE.to (AV.list 1 (([x5] : List Bytes).map AV.str)) (fun _ => rfl) <| bind_elim h fun x10 hx10 h => ?_
    have qx10 := (app_some hx10).1
    have hx10e := (app_some hx10).2
    refine ai ⟨rfl, rfl, rfl⟩ <| ai rfl <| ai (app_cond ss qx10) <| NormE.to (AV.list 1 (x10.map AV.str)) (fun _ => (app_list 1 ss _ _).trans (congrArg (fun y => AV.list 1 (List.map ss y)) hx10e.symm)) <| sn ?_
    replace h := oi h
    refine xi ⟨(n1, (x10, (IntKind.i64.wrap (s3 + (1 : Int))))), hl1 _ h.symm⟩ (ai (Nat.lt_succ_self _) ?_)
    refine Gho.to _ _ _ [3] ?_ ?_ ?_ rfl rfl ?_
    ·exact ⟨⟨rfl, rfl, rfl⟩, trivial⟩
    ·exact rfl
    ·exact rfl
    ·exact ⟨rfl, rfl, trivial, rfl, rfl, ⟨rfl, rfl, rfl⟩, rfl, rfl, trivial, rfl, rfl, trivial, rfl, rfl, trivial, trivial⟩
  ·replace h := oi h
   replace h := hr1 _ h.symm
   subst h
   refine Gho.to _ _ _ [0] ?_ ?_ ?_ rfl rfl ?_
   ·exact ⟨⟨rfl, rfl, rfl⟩, trivial⟩
   ·exact rfl
   ·exact rfl
   ·exact ⟨rfl, rfl, trivial, rfl, rfl, ⟨rfl, rfl, rfl⟩, trivial⟩
 ·clear hj1
  refine sj <| sj <| sn <| sj <| sn ?_
  refine Br.of h (fun ht h => ?_) fun ht h => ?_
  ·refine sj <| sj <| sn ?_
   refine Br.of h (fun ht h => ?_) fun ht h => ?_
   ·refine sj <| bind_elim h fun x11 hx11 h => CallH.data _ false rfl (number_Dec_ok E (IntKind.u64.wrap (IntKind.i64.wrap (0 - a0.N))) x11 hx11) <| bind_elim h fun x12 hx12 h => ?_
    have hx12c := (cat_some hx12).1
    have hx12e := (cat_some hx12).2
    refine ai (fun _ => hx12c) <| NormE.to (ss x12) (fun _ => congrArg ss hx12e.symm) <| sn ?_
    replace h := oi h
    refine RetE.plain ?_
    subst h; exact ai rfl (ai rfl rfl)
   ·refine sn <| sj <| bind_elim h fun x13 hx13 h => CallH.data _ false rfl (number_Dec_ok E (IntKind.u64.wrap a0.N) x13 hx13) <| sn ?_
    replace h := oi h
    refine RetE.plain ?_
    subst h; exact ai rfl (ai rfl rfl)
  ·refine sj <| sn ?_
   refine Br.of h (fun ht h => ?_) fun ht h => ?_
   ·refine sj <| bind_elim h fun x14 hx14 h => ?_
    have hx14c := (cat_some hx14).1
    have hx14e := (cat_some hx14).2
    refine ai (fun _ => hx14c) <| NormE.to (ss x14) (fun _ => congrArg ss hx14e.symm) <| bind_elim h fun x15 hx15 h => ?_
    have hx15c := (cat_some hx15).1
    have hx15e := (cat_some hx15).2
    refine ai (fun _ => hx15c) <| NormE.to (ss x15) (fun _ => congrArg ss hx15e.symm) <| sn ?_
    replace h := oi h
    refine RetE.plain ?_
    subst h; exact ai rfl (ai rfl rfl)
   ·refine sj <| sn ?_
    refine Br.of h (fun ht h => ?_) fun ht h => ?_
    ·refine sj <| sn ?_
     replace h := oi h
     refine RetE.plain ?_
     subst h; exact ai rfl (ai rfl rfl)
    ·refine sj <| sn ?_
     refine Br.of h (fun ht h => ?_) fun ht h => ?_
     ·refine sj <| bind_elim h fun x16 hx16 h => ?_
      refine ai rfl (xi (ss x16) (ai (fun hg => idx_map _ hx16) ?_))
      refine bind_elim h fun x17 hx17 h => ?_
      have hx17c := (cat_some hx17).1
      have hx17e := (cat_some hx17).2
      refine ai (fun _ => hx17c) <| NormE.to (ss x17) (fun _ => congrArg ss hx17e.symm) <| sn ?_
      replace h := oi h
      refine RetE.plain ?_
      subst h; exact ai rfl (ai rfl rfl)
     ·refine sj <| sn ?_
      refine Br.of h (fun ht h => ?_) fun ht h => ?_
      ·refine sj <| bind_elim h fun x18 hx18 h => CallH.data _ false rfl (strings_Join_ok E j1 ([38] : Bytes) x18 hx18) <| sn ?_
       replace h := oi h
       refine RetE.plain ?_
       subst h; exact ai rfl (ai rfl rfl)
      ·refine sj <| sn ?_
       refine Br.of h (fun ht h => ?_) fun ht h => ?_
       ·refine sj <| bind_elim h fun x19 hx19 h => CallH.data _ false rfl (strings_Join_ok E j1 ([124] : Bytes) x19 hx19) ?_
        refine SeqN.via (St.of [⟨2, ss x19, none⟩] [] []) ?_ ?_
        ·refine Gho.to _ _ _ [] ?_ ?_ ?_ rfl rfl ?_
         ·exact trivial
         ·exact rfl
         ·exact rfl
         ·exact tr3 <| trivial
        replace h := oi h
        refine RetE.plain ?_
        subst h; exact ai rfl (ai rfl rfl)
       ·refine sn <| sj <| bind_elim h fun x20 hx20 h => CallH.data _ false rfl (strings_Join_ok E j1 a0.Sign x20 hx20) ?_
        refine SeqN.via (St.of [⟨2, ss x20, none⟩] [] []) ?_ ?_
        ·refine Gho.to _ _ _ [] ?_ ?_ ?_ rfl rfl ?_
         ·exact trivial
         ·exact rfl
         ·exact rfl
         ·exact tr3 <| trivial
        replace h := oi h
        refine RetE.plain ?_
        subst h; exact ai rfl (ai rfl rfl)
theorem expr_write_r_ok (n : Nat) : ∀ (E : Pm.Env) [LaidE E] (a0 : S_Expr) (r : Bytes) (h : expr_write_r n a0 = some r), FnR E Tryz.prog 46 [S_Expr.av a0] (ss r) false := by
 induction n with
 | zero => intro E _ a0 r h; cases (show none = some _ from h)
 | succ n ih => intro E _ a0 r h; exact expr_write_s_ok E (expr_write_r n) ih a0 r h
theorem expr_write_ok (E : Pm.Env) [LaidE E] (a0 : S_Expr) (r : Bytes) (h : expr_write a0 = some r) : FnR E Tryz.prog 46 [S_Expr.av a0] (ss r) false := expr_write_r_ok 1000000 E a0 r h
theorem expr_value_ok (E : Pm.Env) [LaidE E] (a0 : S_Env) (a1 : S_Expr) (r : Bytes) (h : expr_value a0 a1 = some r) : FnR E Tryz.prog 57 [S_Env.av a0, S_Expr.av a1] (ss r) false := by
 refine FnR.of_ev (T := T) (rows := []) tOk mixed Tryz.func57 rfl (by kernel_rfl) (by kernel_rfl) rfl fun hwf => ?_
 unfold expr_value at h
 refine sj <| ai rfl <| ai rfl <| sn <| sj <| sj <| sn <| sj <| sn ?_
 refine Br.of h (fun ht h => ?_) fun ht h => ?_
 ·refine sj <| sn ?_
  replace h := oi h
  refine RetE.plain ?_
  subst h; exact ai rfl (ai rfl rfl)
 ·refine sj <| sn ?_
  refine Br.of h (fun ht h => ?_) fun ht h => ?_
  ·refine sj <| ai ⟨lb rfl, lb rfl⟩ <| NormE.to (S_Env.av a0) (fun _ => rfl) <| bind_elim h fun x1 hx1 h => CallH.data _ false rfl (vars_Ref_ok E a0 a1.Text x1 hx1) ?_
   refine SeqN.via (St.of [⟨5, ss x1.1, none⟩] [] []) ?_ ?_
   ·refine Gho.to _ _ _ [] ?_ ?_ ?_ rfl rfl ?_
    ·exact trivial
    ·exact rfl
    ·exact rfl
    ·exact tr3 <| trivial
   refine sj <| sn ?_
   replace h := oi h
   refine RetE.plain ?_
   subst h; exact ai rfl (ai rfl rfl)
  ·refine sn <| sj <| ai ⟨lb rfl, lb rfl⟩ <| NormE.to (S_Expr.av a1) (fun _ => rfl) <| bind_elim h fun x2 hx2 h => CallH.data _ false rfl (expr_write_ok E a1 x2 hx2) <| sn ?_
   replace h := oi h
   refine RetE.plain ?_
   subst h; exact ai rfl (ai rfl rfl)
theorem expr_against_ok (E : Pm.Env) [LaidE E] (a0 : Bytes) (a1 : Bytes) (r : Int) (h : expr_against a0 a1 = some r) : FnR E Tryz.prog 56 [ss a0, ss a1] (ii r) false := by
 refine FnR.of_ev (T := T) (rows := []) tOk mixed Tryz.func56 rfl (by kernel_rfl) (by kernel_rfl) rfl fun hwf => ?_
 unfold expr_against at h
 refine sj <| sn <| sj <| bind_elim h fun x1 hx1 h => CallH.data _ false rfl (number_Signed_ok E a0 x1 hx1) <| sn <| sj <| bind_elim h fun x2 hx2 h => CallH.data _ false rfl (number_Signed_ok E a1 x2 hx2) <| sn <| sj <| sj <| ai id <| ai (fun hg => (and_r hg)) ?_
 refine SeqN.via (St.of [⟨0, ss a0, none⟩, ⟨1, ss a1, none⟩, ⟨5, ii x1.1, none⟩, ⟨7, ii x2.1, none⟩, ⟨24, bb (bif (x1.2 != (0 : Int)) then true else (x2.2 != (0 : Int))), none⟩] [] []) ?_ ?_
 ·refine Gho.to _ _ _ [] ?_ ?_ ?_ rfl rfl ?_
  ·exact trivial
  ·exact rfl
  ·exact rfl
  ·exact tr3 <| tr3 <| tr3 <| tr3 <| tr3 <| trivial
 refine Br.of h (fun ht h => ?_) fun ht h => ?_
 ·refine sj <| bind_elim h fun x3 hx3 h => CallH.data _ false rfl (strings_Compare_ok E a0 a1 x3 hx3) <| sn ?_
  replace h := oi h
  refine RetE.plain ?_
  subst h; exact ai rfl (ai rfl rfl)
 ·refine sn <| sj <| sj <| sn ?_
  refine Br.of h (fun ht h => ?_) fun ht h => ?_
  ·refine sj <| sn ?_
   replace h := oi h
   refine RetE.plain ?_
   subst h; exact ai rfl (ai rfl rfl)
  ·refine sj <| sn ?_
   refine Br.of h (fun ht h => ?_) fun ht h => ?_
   ·refine sj <| sn ?_
    replace h := oi h
    refine RetE.plain ?_
    subst h; exact ai rfl (ai rfl rfl)
   ·refine sn <| sj <| sn ?_
    replace h := oi h
    refine RetE.plain ?_
    subst h; exact ai rfl (ai rfl rfl)
theorem expr_holds_s_ok (E : Pm.Env) [LaidE E] (rec_expr_holds : S_Env → S_Expr → Option Bool) (rec_expr_holds_ok : ∀ (E : Pm.Env) [LaidE E] (a0 : S_Env) (a1 : S_Expr) (r : Bool) (h : rec_expr_holds a0 a1 = some r), FnR E Tryz.prog 34 [S_Env.av a0, S_Expr.av a1] (bb r) false) (a0 : S_Env) (a1 : S_Expr) (r : Bool) (h : expr_holds_s rec_expr_holds a0 a1 = some r) : FnR E Tryz.prog 34 [S_Env.av a0, S_Expr.av a1] (bb r) false := by
 refine FnR.of_ev (T := T) (rows := []) tOk mixed Tryz.func34 rfl (by kernel_rfl) (by kernel_rfl) rfl fun hwf => ?_
 unfold expr_holds_s at h
 refine sj <| ai rfl <| ai rfl ?_
 refine SeqN.via (St.of [⟨2, AV.iptr (S_Env.cells a0), none⟩, ⟨3, AV.ptr 1 0, none⟩] [.dead, .cells 26 (S_Expr.cells a1) []] []) ?_ ?_
 ·refine Gho.trans (Gho.fz [0] [(2, AV.iptr (S_Env.cells a0))] ⟨Frz.ptrD rfl rfl (lb rfl), trivial⟩) ?_
  refine Gho.to _ _ _ [] ?_ ?_ ?_ rfl rfl ?_
  ·exact ⟨trivial, ⟨⟨rfl, rfl, rfl⟩, trivial⟩⟩
  ·exact rfl
  ·exact rfl
  ·exact tr3 <| tr3 <| trivial
 refine sj <| sn <| sj <| sn <| sj <| sj <| sn <| sj <| sn ?_
 refine Br.of h (fun ht h => ?_) fun ht h => ?_
 ·refine sj <| sn ?_
  replace h := oi h
  refine RetE.plain ?_
  subst h; exact ai rfl (ai rfl rfl)
 ·refine sj <| sn ?_
  refine Br.of h (fun ht h => ?_) fun ht h => ?_
  ·refine sj <| bind_elim h fun x1 hx1 h => ?_
   refine ai rfl (xi (S_Expr.av x1) (ai (fun hg => S_Expr.av_eq x1 ▸ idx_map _ hx1) ?_))
   refine ai (lb rfl) <| NormE.to (S_Expr.av x1) (fun _ => rfl) <| bind_elim h fun x2 hx2 h => CallH.data _ false rfl (expr_holds_2_ok E rec_expr_holds rec_expr_holds_ok x1 a0 x2 hx2) ?_
   refine SeqN.via (St.of [⟨4, bb x2, none⟩] [] []) ?_ ?_
   ·refine Gho.to _ _ _ [] ?_ ?_ ?_ rfl rfl ?_
    ·exact trivial
    ·exact rfl
    ·exact rfl
    ·exact tr3 <| trivial
   replace h := oi h
   refine RetE.plain ?_
   subst h; exact ai rfl (ai rfl rfl)
  ·refine sj <| sn ?_
   refine Br.of h (fun ht h => ?_) fun ht h => ?_
   ·refine sj <| bind_elim h fun x3 hx3 h => CallH.data _ false rfl (slices_ContainsFunc__api_Expr_api_Expr_ok E a1.Kids 54 [AV.iptr (S_Env.cells a0)] (fun x0 => expr_holds_2 rec_expr_holds x0 a0) (fun x0 r h => expr_holds_2_ok E rec_expr_holds rec_expr_holds_ok x0 a0 r h) rfl x3 hx3) ?_
    refine SeqN.via (St.of [⟨4, bb (!x3), none⟩] [] []) ?_ ?_
    ·refine Gho.to _ _ _ [] ?_ ?_ ?_ rfl rfl ?_
     ·exact trivial
     ·exact rfl
     ·exact rfl
     ·exact tr3 <| trivial
    replace h := oi h
    refine RetE.plain ?_
    subst h; exact ai rfl (ai rfl rfl)
   ·refine sj <| sn ?_
    refine Br.of h (fun ht h => ?_) fun ht h => ?_
    ·refine sj <| bind_elim h fun x4 hx4 h => CallH.data _ false rfl (slices_ContainsFunc__api_Expr_api_Expr_ok E a1.Kids 53 [AV.iptr (S_Env.cells a0)] (fun x0 => expr_holds_1 rec_expr_holds x0 a0) (fun x0 r h => expr_holds_1_ok E rec_expr_holds rec_expr_holds_ok x0 a0 r h) rfl x4 hx4) ?_
     refine SeqN.via (St.of [⟨4, bb x4, none⟩] [] []) ?_ ?_
     ·refine Gho.to _ _ _ [] ?_ ?_ ?_ rfl rfl ?_
      ·exact trivial
      ·exact rfl
      ·exact rfl
      ·exact tr3 <| trivial
     replace h := oi h
     refine RetE.plain ?_
     subst h; exact ai rfl (ai rfl rfl)
    ·refine sj ?_
     refine SeqN.via (St.of [⟨2, AV.iptr (S_Env.cells a0), none⟩, ⟨3, AV.ptr 1 0, none⟩, ⟨38, bb (a1.Kind == (7 : Int)), none⟩] [.dead, .cells 26 (S_Expr.cells a1) []] []) ?_ ?_
     ·refine Gho.to _ _ _ [] ?_ ?_ ?_ rfl rfl ?_
      ·exact ⟨trivial, ⟨⟨rfl, rfl, rfl⟩, trivial⟩⟩
      ·exact rfl
      ·exact rfl
      ·exact tr3 <| tr3 <| tr3 <| trivial
     refine Br.of h (fun ht h => ?_) fun ht h => ?_
     ·refine sj <| Or.inl <| ai (lb rfl) <| NormE.to (S_Env.av a0) (fun _ => rfl) <| bind_elim h fun x5 hx5 h => ?_
      refine ai rfl (xi (S_Expr.av x5) (ai (fun hg => S_Expr.av_eq x5 ▸ idx_map _ hx5) ?_))
      refine ai (lb rfl) <| NormE.to (S_Expr.av x5) (fun _ => rfl) <| bind_elim h fun x6 hx6 h => CallH.data _ false rfl (expr_value_ok E a0 x5 x6 hx6) <| ai (lb rfl) <| NormE.to (S_Env.av a0) (fun _ => rfl) <| bind_elim h fun x7 hx7 h => ?_
      refine ai rfl (xi (S_Expr.av x7) (ai (fun hg => S_Expr.av_eq x7 ▸ idx_map _ hx7) ?_))
      refine ai (lb rfl) <| NormE.to (S_Expr.av x7) (fun _ => rfl) <| bind_elim h fun x8 hx8 h => CallH.data _ false rfl (expr_value_ok E a0 x7 x8 hx8) <| bind_elim h fun x9 hx9 h => CallH.data _ false rfl (expr_against_ok E x6 x8 x9 hx9) <| ai (by kernel_rfl) <| sn <| sj <| sj ?_
      refine SeqN.via (St.of [⟨7, ii x9, none⟩, ⟨54, ss a1.Sign, none⟩] [] []) ?_ ?_
      ·refine Gho.to _ _ _ [] ?_ ?_ ?_ rfl rfl ?_
       ·exact trivial
       ·exact rfl
       ·exact rfl
       ·exact tr3 <| tr3 <| trivial
      refine sj <| sn ?_
      refine Br.of h (fun ht h => ?_) fun ht h => ?_
      ·refine sj <| sn ?_
       replace h := oi h
       refine RetE.plain ?_
       subst h; exact ai rfl (ai rfl rfl)
      ·refine sj <| sn ?_
       refine Br.of h (fun ht h => ?_) fun ht h => ?_
       ·refine sj <| sn ?_
        replace h := oi h
        refine RetE.plain ?_
        subst h; exact ai rfl (ai rfl rfl)
       ·refine sj <| sn ?_
        refine Br.of h (fun ht h => ?_) fun ht h => ?_
        ·refine sj <| sn ?_
         replace h := oi h
         refine RetE.plain ?_
         subst h; exact ai rfl (ai rfl rfl)
        ·refine sj <| sn ?_
         refine Br.of h (fun ht h => ?_) fun ht h => ?_
         ·refine sj <| sn ?_
          replace h := oi h
          refine RetE.plain ?_
          subst h; exact ai rfl (ai rfl rfl)
         ·refine sj <| sn ?_
          refine Br.of h (fun ht h => ?_) fun ht h => ?_
          ·refine sj <| sn ?_
           replace h := oi h
           refine RetE.plain ?_
           subst h; exact ai rfl (ai rfl rfl)
          ·refine sn <| sj <| sn ?_
           replace h := oi h
           refine RetE.plain ?_
           subst h; exact ai rfl (ai rfl rfl)
     ·refine sn <| sj <| ai (lb rfl) <| NormE.to (S_Env.av a0) (fun _ => rfl) <| ai ⟨lb rfl, lb rfl⟩ <| NormE.to (S_Expr.av a1) (fun _ => rfl) <| bind_elim h fun x10 hx10 h => CallH.data _ false rfl (expr_value_ok E a0 a1 x10 hx10) <| sn ?_
      replace h := oi h
      refine RetE.plain ?_
      subst h; exact ai rfl (ai rfl rfl)
theorem expr_holds_r_ok (n : Nat) : ∀ (E : Pm.Env) [LaidE E] (a0 : S_Env) (a1 : S_Expr) (r : Bool) (h : expr_holds_r n a0 a1 = some r), FnR E Tryz.prog 34 [S_Env.av a0, S_Expr.av a1] (bb r) false := by
 induction n with
 | zero => intro E _ a0 a1 r h; cases (show none = some _ from h)
 | succ n ih => intro E _ a0 a1 r h; exact expr_holds_s_ok E (expr_holds_r n) ih a0 a1 r h
theorem expr_holds_ok (E : Pm.Env) [LaidE E] (a0 : S_Env) (a1 : S_Expr) (r : Bool) (h : expr_holds a0 a1 = some r) : FnR E Tryz.prog 34 [S_Env.av a0, S_Expr.av a1] (bb r) false := expr_holds_r_ok 1000000 E a0 a1 r h
theorem expr_Eval_ok (E : Pm.Env) [LaidE E] (a0 : S_Env) (a1 : S_Expr) (r : (Bool × Int)) (h : expr_Eval a0 a1 = some r) : FnR E Tryz.prog 15 [S_Env.av a0, S_Expr.av a1] (AV.tup [bb r.1, ii r.2]) false := by
 refine FnR.of_ev (T := T) (rows := []) tOk mixed Tryz.func15 rfl (by kernel_rfl) (by kernel_rfl) rfl fun hwf => ?_
 unfold expr_Eval at h
 refine sj <| ai rfl <| ai rfl <| sn <| sj <| sj <| ai ⟨lb rfl, lb rfl⟩ <| NormE.to (S_Expr.av a1) (fun _ => rfl) <| bind_elim h fun x1 hx1 h => CallH.data _ false rfl (expr_Right_ok E a1 x1 hx1) <| sn ?_
 refine Br.of h (fun ht h => ?_) fun ht h => ?_
 ·refine sj <| sn ?_
  replace h := oi h
  refine RetE.plain ?_
  subst h; exact ai rfl (ai rfl rfl)
 ·refine sn <| sj <| ai ⟨lb rfl, lb rfl⟩ <| NormE.to (S_Env.av a0) (fun _ => rfl) <| ai ⟨lb rfl, lb rfl⟩ <| NormE.to (S_Expr.av a1) (fun _ => rfl) <| bind_elim h fun x2 hx2 h => CallH.data _ false rfl (expr_holds_ok E a0 a1 x2 hx2) <| sn ?_
  replace h := oi h
  refine RetE.plain ?_
  subst h; exact ai rfl (ai rfl rfl)
theorem expr_Test_ok (E : Pm.Env) [LaidE E] (a0 : S_Env) (a1 : Bytes) (r : (Bool × Int)) (h : expr_Test a0 a1 = some r) : FnR E Tryz.prog 12 [S_Env.av a0, ss a1] (AV.tup [bb r.1, ii r.2]) false := by
 refine FnR.of_ev (T := T) (rows := []) tOk mixed Tryz.func12 rfl (by kernel_rfl) (by kernel_rfl) rfl fun hwf => ?_
 unfold expr_Test at h
 refine sj <| ai rfl <| sn <| sj <| bind_elim h fun x1 hx1 h => CallH.data _ false rfl (expr_Parse_ok E a1 x1 hx1) <| ai rfl ?_
 refine ai ⟨rfl, rfl, rfl, lb rfl⟩ (xi (S_Expr.cells x1.1) (ai (fun _ => rfl) ?_))
 refine sn <| sj <| sj <| sn ?_
 refine Br.of h (fun ht h => ?_) fun ht h => ?_
 ·refine sj ?_
  refine SeqN.via (St.of [⟨4, bb false, none⟩, ⟨5, ii x1.2, none⟩] [] []) ?_ ?_
  ·refine Gho.to _ _ _ [] ?_ ?_ ?_ rfl rfl ?_
   ·exact trivial
   ·exact rfl
   ·exact rfl
   ·exact tr3 <| tr3 <| trivial
  replace h := oi h
  refine RetE.plain ?_
  subst h; exact ai rfl (ai rfl rfl)
 ·refine sn <| sj <| ai ⟨lb rfl, lb rfl⟩ <| NormE.to (S_Env.av a0) (fun _ => rfl) <| ai ⟨lb rfl, lb rfl⟩ <| NormE.to (S_Expr.av x1.1) (fun _ => rfl) <| bind_elim h fun x2 hx2 h => CallH.data _ false rfl (expr_Eval_ok E a0 x1.1 x2 hx2) ?_
  refine SeqN.via (St.of [⟨4, bb x2.1, none⟩, ⟨5, ii x2.2, none⟩] [] []) ?_ ?_
  ·refine Gho.to _ _ _ [] ?_ ?_ ?_ rfl rfl ?_
   ·exact trivial
   ·exact rfl
   ·exact rfl
   ·exact tr3 <| tr3 <| trivial
  replace h := oi h
  refine RetE.plain ?_
  subst h; exact ai rfl (ai rfl rfl)
end Go.Proofs.YtdobepgddhbncaaGreatDoor
