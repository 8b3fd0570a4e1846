/-
  The functions do what their images say: walks, written by a program of mine (gen.py).
-/
import Derived.Test.YtpionnihpibglaaGreatDoorIf1
import Derived.Test.YtpionnihpibglaaGreatDoorGb1
namespace Go.Proofs.YtpionnihpibglaaGreatDoor
open Go Go.Pm
set_option linter.unusedSimpArgs false
open And renaming intro → ai
open Exists renaming intro → xi
open Option.some renaming inj → oi
open _root_.Nat renaming le_of_ble_eq_true → lb
open Go.Pm.SeqJ renaming go → sj
open Go.Pm.SeqN renaming go → sn
set_option maxRecDepth 100000
set_option maxHeartbeats 4000000
set_option linter.unusedVariables false
theorem strconv_isPowerOfTwo_ok (E : Pm.Env) [LaidB E] (a0 : Int) (r : Bool) (h : strconv_isPowerOfTwo a0 = some r) : FnR E Tryz.prog 154 [ii a0] (bb r) false := by
 refine FnR.of_ev (T := T) (rows := []) tOk mixed Tryz.func154 rfl (by kernel_rfl) (by kernel_rfl) rfl fun hwf => ?_
 unfold strconv_isPowerOfTwo at h
 refine sj <| sn <| sj <| sn ?_
 replace h := oi h
 refine RetE.plain ?_
 subst h; exact ai rfl (ai rfl rfl)
theorem math_bits_TrailingZeros_ok (E : Pm.Env) [LaidB E] (a0 : Int) (r : Int) (h : math_bits_TrailingZeros a0 = some r) : FnR E Tryz.prog 155 [AV.int .u64 a0] (ii r) false := by
 refine FnR.of_ev (T := T) (rows := []) tOk mixed Tryz.func155 rfl (by kernel_rfl) (by kernel_rfl) rfl fun hwf => ?_
 unfold math_bits_TrailingZeros at h
 refine sj <| sn <| sj ?_
 refine Br.mk (fun hf => absurd hf (by decide)) (fun _ => ?_)
 refine sn <| sj <| bind_elim h fun x1 hx1 h => CallH.data _ false rfl (math_bits_TrailingZeros64_ok E a0 x1 hx1) <| sn ?_
 replace h := oi h
 refine RetE.plain ?_
 subst h; exact ai rfl (ai rfl rfl)
theorem strconv_formatBits_ok (E : Pm.Env) [LaidB E] (a0 : (List UInt8)) (a1 : Int) (a2 : Int) (a3 : Bool) (a4 : Bool) (r : ((List UInt8) × Bytes)) (h : strconv_formatBits a0 a1 a2 a3 a4 = some r) : FnR E Tryz.prog 139 [AV.list 1 (a0.map byteAV), AV.int .u64 a1, ii a2, bb a3, bb a4] (AV.tup [AV.list 1 (r.1.map byteAV), ss r.2]) false := by
 refine FnR.of_ev (T := T) (rows := []) tOk mixed Tryz.func139 rfl (by kernel_rfl) (by kernel_rfl) rfl fun hwf => ?_
 unfold strconv_formatBits at h
 refine sj <| sn <| sj <| sj <| ai id <| ai (fun hg => (and_r hg)) <| ai id <| ai (fun hg => (and_r hg)) <| sn ?_
 refine Br.of h (fun ht h => ?_) fun ht h => ?_
 ·cases h
 ·refine sn <| sj <| ai rfl <| sn <| sj <| sn <| sj <| sj <| sn ?_
  refine Br.of h (fun ht h => ?_) fun ht h => ?_
  ·refine SeqN.via (St.of [⟨0, AV.list 1 (a0.map byteAV), none⟩, ⟨1, AV.int .u64 (IntKind.u64.wrap (0 - a1)), none⟩, ⟨2, ii a2, none⟩, ⟨3, bb a3, none⟩, ⟨4, bb a4, none⟩, ⟨10, AV.list 1 (([] : List UInt8).map byteAV), some 0⟩, ⟨11, ss [], none⟩, ⟨12, AV.ptr 0 0, none⟩, ⟨13, ii 65, none⟩] [.cells 168 ((List.replicate 65 (0 : UInt8)).map byteAV) []] [2]) ?_ ?_
   ·refine Gho.to _ _ _ [0] ?_ ?_ ?_ rfl rfl ?_
    ·exact ⟨⟨rfl, rfl, rfl⟩, trivial⟩
    ·exact (and_tt' (noB_map _ (fun _ => rfl) _) rfl)
    ·exact rfl
    ·exact ⟨rfl, rfl, trivial, rfl, rfl, trivial, rfl, rfl, trivial, rfl, rfl, trivial, rfl, rfl, trivial, rfl, rfl, ⟨rfl, rfl, rfl⟩, rfl, rfl, trivial, rfl, rfl, trivial, rfl, rfl, trivial, trivial⟩
   refine bind_elim h fun j1 hj1 h => ?_
   refine SeqJ.join (St.of [⟨0, AV.list 1 (a0.map byteAV), none⟩, ⟨3, bb a3, none⟩, ⟨4, bb a4, none⟩, ⟨10, AV.list 1 (([] : List UInt8).map byteAV), some 0⟩, ⟨11, ss [], none⟩, ⟨12, AV.ptr 0 0, none⟩, ⟨13, ii j1.1, none⟩] [.cells 168 (j1.2.map byteAV) []] [2]) ?_ ?_
   ·clear h; have h := hj1; clear hj1
    refine sj <| bind_elim h fun x2 hx2 h => CallH.data _ false rfl (strconv_isPowerOfTwo_ok E a2 x2 hx2) <| sn ?_
    refine Br.of h (fun ht h => ?_) fun ht h => ?_
    ·refine sj <| bind_elim h fun x3 hx3 h => CallH.data _ false rfl (math_bits_TrailingZeros_ok E (IntKind.u64.wrap a2) x3 hx3) <| sn <| sj <| sn <| sj <| sn <| bind_elim h fun j4 hj4 h => ?_
     refine SeqJ.join (St.of [⟨0, AV.list 1 (a0.map byteAV), none⟩, ⟨1, AV.int .u64 j4.1, none⟩, ⟨3, bb a3, none⟩, ⟨4, bb a4, none⟩, ⟨10, AV.list 1 (([] : List UInt8).map byteAV), some 0⟩, ⟨11, ss [], none⟩, ⟨12, AV.ptr 0 0, none⟩, ⟨13, ii j4.2.1, none⟩] [.cells 168 (j4.2.2.map byteAV) []] [2]) ?_ ?_
     ·clear h; have h := hj4; clear hj4
      refine LoopE.img (fun x : (Int × Int × (List UInt8)) => St.of [⟨0, AV.list 1 (a0.map byteAV), none⟩, ⟨1, AV.int .u64 x.1, none⟩, ⟨3, bb a3, none⟩, ⟨4, bb a4, none⟩, ⟨10, AV.list 1 (([] : List UInt8).map byteAV), some 0⟩, ⟨11, ss [], none⟩, ⟨12, AV.ptr 0 0, none⟩, ⟨13, ii x.2.1, none⟩, ⟨14, AV.int .u64 (IntKind.u64.wrap x3), none⟩, ⟨15, AV.int .u64 (IntKind.u64.wrap a2), none⟩, ⟨16, AV.int .u64 (IntKind.u64.wrap ((IntKind.u64.wrap a2) - (1 : Int))), none⟩] [.cells 168 (x.2.2.map byteAV) []] [2]) (strconv_formatBits_b1 a2 x3) ((IntKind.u64.wrap (0 - a1)), (65 : Int), (List.replicate 65 (0 : UInt8))) h ?_ ?_
      ·refine Gho.to _ _ _ [0] ?_ ?_ ?_ rfl rfl ?_
       ·exact ⟨⟨rfl, rfl, rfl⟩, trivial⟩
       ·exact (and_tt' (noB_map _ (fun _ => rfl) _) rfl)
       ·exact rfl
       ·exact ⟨rfl, rfl, trivial, rfl, rfl, trivial, rfl, rfl, trivial, rfl, rfl, trivial, rfl, rfl, ⟨rfl, rfl, rfl⟩, rfl, rfl, trivial, rfl, rfl, trivial, rfl, rfl, trivial, rfl, rfl, trivial, rfl, rfl, trivial, rfl, rfl, trivial, trivial⟩
      intro n1 x y1 h hl1 hr1
      obtain ⟨s5, s6, s7⟩ := x
      unfold strconv_formatBits_b1 at h
      dsimp only at h
      refine sj <| sj <| sn ?_
      refine Br.of h (fun ht h => ?_) fun ht h => ?_
      ·refine sn <| sj <| sn <| sj <| bind_elim h fun x8 hx8 h => ?_
       refine xi x8 (ai (fun hg => idx_some hx8) ?_)
       refine chk_elim h fun q9 h => ai (fun _ => q9) <| bind_elim h fun x10 hx10 h => ?_
       have qx10 := (seti_some hx10).1
       have hx10e := (seti_some hx10).2
       refine ai ⟨rfl, rfl, rfl, seti_len byteAV qx10 0 rfl⟩ (xi (x10.map byteAV) (ai (fun hw => seti_u8 hw qx10 hx10e) ?_))
       refine sn <| chk_elim h fun q11 h => ai (fun _ => q11) ?_
       replace h := oi h
       refine xi ⟨(n1, ((s5 / 2 ^ (IntKind.u64.wrap x3).toNat), (IntKind.i64.wrap (s6 - (1 : Int))), x10)), hl1 _ h.symm⟩ (ai (Nat.lt_succ_self _) ?_)
       refine Gho.to _ _ _ [0] ?_ ?_ ?_ rfl rfl ?_
       ·exact ⟨⟨rfl, rfl, rfl⟩, trivial⟩
       ·exact (and_tt' (noB_map _ (fun _ => rfl) _) rfl)
       ·exact rfl
       ·exact ⟨rfl, rfl, trivial, rfl, rfl, trivial, rfl, rfl, trivial, rfl, rfl, trivial, rfl, rfl, ⟨rfl, rfl, rfl⟩, rfl, rfl, trivial, rfl, rfl, trivial, rfl, rfl, trivial, rfl, rfl, trivial, rfl, rfl, trivial, rfl, rfl, trivial, trivial⟩
      ·replace h := oi h
       replace h := hr1 _ h.symm
       subst h
       refine Gho.to _ _ _ [0] ?_ ?_ ?_ rfl rfl ?_
       ·exact ⟨⟨rfl, rfl, rfl⟩, trivial⟩
       ·exact (and_tt' (noB_map _ (fun _ => rfl) _) rfl)
       ·exact rfl
       ·exact ⟨rfl, rfl, trivial, rfl, rfl, trivial, rfl, rfl, trivial, rfl, rfl, trivial, rfl, rfl, ⟨rfl, rfl, rfl⟩, rfl, rfl, trivial, rfl, rfl, trivial, rfl, rfl, trivial, trivial⟩
     ·clear hj4
      refine sj <| sn <| bind_elim h fun x12 hx12 h => ?_
      refine xi x12 (ai (fun hg => idx_some hx12) ?_)
      refine chk_elim h fun q13 h => ai (fun _ => q13) <| bind_elim h fun x14 hx14 h => ?_
      have qx14 := (seti_some hx14).1
      have hx14e := (seti_some hx14).2
      refine ai ⟨rfl, rfl, rfl, seti_len byteAV qx14 0 rfl⟩ (xi (x14.map byteAV) (ai (fun hw => seti_u8 hw qx14 hx14e) ?_))
      replace h := oi h
      subst h
      refine Gho.to _ _ _ [0] ?_ ?_ ?_ rfl rfl ?_
      ·exact ⟨⟨rfl, rfl, rfl⟩, trivial⟩
      ·exact (and_tt' (noB_map _ (fun _ => rfl) _) rfl)
      ·exact rfl
      ·exact ⟨rfl, rfl, trivial, rfl, rfl, trivial, rfl, rfl, trivial, rfl, rfl, ⟨rfl, rfl, rfl⟩, rfl, rfl, trivial, rfl, rfl, trivial, rfl, rfl, trivial, trivial⟩
    ·refine sj <| sn <| bind_elim h fun j15 hj15 h => ?_
     refine SeqJ.join (St.of [⟨0, AV.list 1 (a0.map byteAV), none⟩, ⟨1, AV.int .u64 j15.1, none⟩, ⟨3, bb a3, none⟩, ⟨4, bb a4, none⟩, ⟨10, AV.list 1 (([] : List UInt8).map byteAV), some 0⟩, ⟨11, ss [], none⟩, ⟨12, AV.ptr 0 0, none⟩, ⟨13, ii j15.2.1, none⟩] [.cells 168 (j15.2.2.map byteAV) []] [2]) ?_ ?_
     ·clear h; have h := hj15; clear hj15
      refine LoopE.img (fun x : (Int × Int × (List UInt8)) => St.of [⟨0, AV.list 1 (a0.map byteAV), none⟩, ⟨1, AV.int .u64 x.1, none⟩, ⟨3, bb a3, none⟩, ⟨4, bb a4, none⟩, ⟨10, AV.list 1 (([] : List UInt8).map byteAV), some 0⟩, ⟨11, ss [], none⟩, ⟨12, AV.ptr 0 0, none⟩, ⟨13, ii x.2.1, none⟩, ⟨17, AV.int .u64 (IntKind.u64.wrap a2), none⟩] [.cells 168 (x.2.2.map byteAV) []] [2]) (strconv_formatBits_b2 a2) ((IntKind.u64.wrap (0 - a1)), (65 : Int), (List.replicate 65 (0 : UInt8))) h ?_ ?_
      ·refine Gho.to _ _ _ [0] ?_ ?_ ?_ rfl rfl ?_
       ·exact ⟨⟨rfl, rfl, rfl⟩, trivial⟩
       ·exact (and_tt' (noB_map _ (fun _ => rfl) _) rfl)
       ·exact rfl
       ·exact ⟨rfl, rfl, trivial, rfl, rfl, trivial, rfl, rfl, trivial, rfl, rfl, trivial, rfl, rfl, ⟨rfl, rfl, rfl⟩, rfl, rfl, trivial, rfl, rfl, trivial, rfl, rfl, trivial, rfl, rfl, trivial, trivial⟩
      intro n2 x y2 h hl2 hr2
      obtain ⟨s16, s17, s18⟩ := x
      unfold strconv_formatBits_b2 at h
      dsimp only at h
      refine sj <| sj <| sn ?_
      refine Br.of h (fun ht h => ?_) fun ht h => ?_
      ·refine sn <| sj <| sn <| sj <| chk_elim h fun q19 h => ai (fun _ => q19) <| sn <| sj <| bind_elim h fun x20 hx20 h => ?_
       refine xi x20 (ai (fun hg => idx_some hx20) ?_)
       refine chk_elim h fun q21 h => ai (fun _ => q21) <| bind_elim h fun x22 hx22 h => ?_
       have qx22 := (seti_some hx22).1
       have hx22e := (seti_some hx22).2
       refine ai ⟨rfl, rfl, rfl, seti_len byteAV qx22 0 rfl⟩ (xi (x22.map byteAV) (ai (fun hw => seti_u8 hw qx22 hx22e) ?_))
       refine SeqN.via (St.of [⟨0, AV.list 1 (a0.map byteAV), none⟩, ⟨3, bb a3, none⟩, ⟨4, bb a4, none⟩, ⟨10, AV.list 1 (([] : List UInt8).map byteAV), some 0⟩, ⟨11, ss [], none⟩, ⟨12, AV.ptr 0 0, none⟩, ⟨13, ii (IntKind.i64.wrap (s17 - (1 : Int))), none⟩, ⟨17, AV.int .u64 (IntKind.u64.wrap a2), none⟩, ⟨18, AV.int .u64 (IntKind.u64.wrap (s16.tdiv (IntKind.u64.wrap a2))), none⟩] [.cells 168 (x22.map byteAV) []] [2]) ?_ ?_
       ·refine Gho.to _ _ _ [0] ?_ ?_ ?_ rfl rfl ?_
        ·exact ⟨⟨rfl, rfl, rfl⟩, trivial⟩
        ·exact (and_tt' (noB_map _ (fun _ => rfl) _) rfl)
        ·exact rfl
        ·exact ⟨rfl, rfl, trivial, rfl, rfl, trivial, rfl, rfl, trivial, rfl, rfl, ⟨rfl, rfl, rfl⟩, rfl, rfl, trivial, rfl, rfl, trivial, rfl, rfl, trivial, rfl, rfl, trivial, rfl, rfl, trivial, trivial⟩
       replace h := oi h
       refine xi ⟨(n2, ((IntKind.u64.wrap (s16.tdiv (IntKind.u64.wrap a2))), (IntKind.i64.wrap (s17 - (1 : Int))), x22)), hl2 _ h.symm⟩ (ai (Nat.lt_succ_self _) ?_)
       refine Gho.to _ _ _ [0] ?_ ?_ ?_ rfl rfl ?_
       ·exact ⟨⟨rfl, rfl, rfl⟩, trivial⟩
       ·exact (and_tt' (noB_map _ (fun _ => rfl) _) rfl)
       ·exact rfl
       ·exact ⟨rfl, rfl, trivial, rfl, rfl, trivial, rfl, rfl, trivial, rfl, rfl, trivial, rfl, rfl, ⟨rfl, rfl, rfl⟩, rfl, rfl, trivial, rfl, rfl, trivial, rfl, rfl, trivial, rfl, rfl, trivial, trivial⟩
      ·replace h := oi h
       replace h := hr2 _ h.symm
       subst h
       refine Gho.to _ _ _ [0] ?_ ?_ ?_ rfl rfl ?_
       ·exact ⟨⟨rfl, rfl, rfl⟩, trivial⟩
       ·exact (and_tt' (noB_map _ (fun _ => rfl) _) rfl)
       ·exact rfl
       ·exact ⟨rfl, rfl, trivial, rfl, rfl, trivial, rfl, rfl, trivial, rfl, rfl, trivial, rfl, rfl, ⟨rfl, rfl, rfl⟩, rfl, rfl, trivial, rfl, rfl, trivial, rfl, rfl, trivial, trivial⟩
     ·clear hj15
      refine sj <| sn <| bind_elim h fun x23 hx23 h => ?_
      refine xi x23 (ai (fun hg => idx_some hx23) ?_)
      refine chk_elim h fun q24 h => ai (fun _ => q24) <| bind_elim h fun x25 hx25 h => ?_
      have qx25 := (seti_some hx25).1
      have hx25e := (seti_some hx25).2
      refine ai ⟨rfl, rfl, rfl, seti_len byteAV qx25 0 rfl⟩ (xi (x25.map byteAV) (ai (fun hw => seti_u8 hw qx25 hx25e) ?_))
      replace h := oi h
      subst h
      refine Gho.to _ _ _ [0] ?_ ?_ ?_ rfl rfl ?_
      ·exact ⟨⟨rfl, rfl, rfl⟩, trivial⟩
      ·exact (and_tt' (noB_map _ (fun _ => rfl) _) rfl)
      ·exact rfl
      ·exact ⟨rfl, rfl, trivial, rfl, rfl, trivial, rfl, rfl, trivial, rfl, rfl, ⟨rfl, rfl, rfl⟩, rfl, rfl, trivial, rfl, rfl, trivial, rfl, rfl, trivial, trivial⟩
   ·clear hj1
    refine sj <| sj <| sn ?_
    refine Br.of h (fun ht h => ?_) fun ht h => ?_
    ·refine sj <| sn <| chk_elim h fun q26 h => ai (fun _ => q26) <| bind_elim h fun x27 hx27 h => ?_
     have qx27 := (seti_some hx27).1
     have hx27e := (seti_some hx27).2
     refine ai ⟨rfl, rfl, rfl, seti_len byteAV qx27 0 rfl⟩ (xi (x27.map byteAV) (ai (fun hw => seti_u8 hw qx27 hx27e) ?_))
     refine sn <| sj <| sj <| sn ?_
     refine Br.of h (fun ht h => ?_) fun ht h => ?_
     ·refine sj <| chk_elim h fun q29 h => ai ⟨fun _ => q29, lb rfl⟩ <| NormE.to (AV.row 0 (0 + (IntKind.i64.wrap (j1.1 - (1 : Int))).toNat * 1) ((65 : Int).toNat - (IntKind.i64.wrap (j1.1 - (1 : Int))).toNat)) (fun _ => rfl) ?_
      cases h
     ·refine sn <| sj <| chk_elim h fun q31 h => ai ⟨fun _ => q31, lb rfl⟩ <| NormE.to (AV.row 0 (0 + (IntKind.i64.wrap (j1.1 - (1 : Int))).toNat * 1) ((65 : Int).toNat - (IntKind.i64.wrap (j1.1 - (1 : Int))).toNat)) (fun _ => rfl) <| chk_elim h fun q32 h => ?_
      refine ai rfl (xi ((x27.drop (0 + (IntKind.i64.wrap (j1.1 - (1 : Int))).toNat * 1)).take ((65 : Int).toNat - (IntKind.i64.wrap (j1.1 - (1 : Int))).toNat)) (ai (row_text2 q32) ?_))
      refine sn ?_
      replace h := oi h
      refine RetE.plain ?_
      subst h; exact ai rfl (ai rfl rfl)
    ·refine sn <| sj <| sj <| sn ?_
     refine Br.of h (fun ht h => ?_) fun ht h => ?_
     ·refine sj <| chk_elim h fun q34 h => ai ⟨fun _ => q34, lb rfl⟩ <| NormE.to (AV.row 0 (0 + j1.1.toNat * 1) ((65 : Int).toNat - j1.1.toNat)) (fun _ => rfl) ?_
      cases h
     ·refine sn <| sj <| chk_elim h fun q36 h => ai ⟨fun _ => q36, lb rfl⟩ <| NormE.to (AV.row 0 (0 + j1.1.toNat * 1) ((65 : Int).toNat - j1.1.toNat)) (fun _ => rfl) <| chk_elim h fun q37 h => ?_
      refine ai rfl (xi ((j1.2.drop (0 + j1.1.toNat * 1)).take ((65 : Int).toNat - j1.1.toNat)) (ai (row_text2 q37) ?_))
      refine sn ?_
      replace h := oi h
      refine RetE.plain ?_
      subst h; exact ai rfl (ai rfl rfl)
  ·refine sn <| bind_elim h fun j38 hj38 h => ?_
   refine SeqJ.join (St.of [⟨0, AV.list 1 (a0.map byteAV), none⟩, ⟨3, bb a3, none⟩, ⟨4, bb a4, none⟩, ⟨10, AV.list 1 (([] : List UInt8).map byteAV), some 0⟩, ⟨11, ss [], none⟩, ⟨12, AV.ptr 0 0, none⟩, ⟨13, ii j38.1, none⟩] [.cells 168 (j38.2.map byteAV) []] [2]) ?_ ?_
   ·clear h; have h := hj38; clear hj38
    refine sj <| bind_elim h fun x39 hx39 h => CallH.data _ false rfl (strconv_isPowerOfTwo_ok E a2 x39 hx39) ?_
    refine SeqN.via (St.of [⟨0, AV.list 1 (a0.map byteAV), none⟩, ⟨1, AV.int .u64 a1, none⟩, ⟨2, ii a2, none⟩, ⟨3, bb a3, none⟩, ⟨4, bb a4, none⟩, ⟨10, AV.list 1 (([] : List UInt8).map byteAV), some 0⟩, ⟨11, ss [], none⟩, ⟨12, AV.ptr 0 0, none⟩, ⟨13, ii 65, none⟩, ⟨34, bb x39, none⟩] [.cells 168 ((List.replicate 65 (0 : UInt8)).map byteAV) []] [2]) ?_ ?_
    ·refine Gho.to _ _ _ [0] ?_ ?_ ?_ rfl rfl ?_
     ·exact ⟨⟨rfl, rfl, rfl⟩, trivial⟩
     ·exact (and_tt' (noB_map _ (fun _ => rfl) _) rfl)
     ·exact rfl
     ·exact ⟨rfl, rfl, trivial, rfl, rfl, trivial, rfl, rfl, trivial, rfl, rfl, trivial, rfl, rfl, trivial, rfl, rfl, ⟨rfl, rfl, rfl⟩, rfl, rfl, trivial, rfl, rfl, trivial, rfl, rfl, trivial, rfl, rfl, trivial, trivial⟩
    refine Br.of h (fun ht h => ?_) fun ht h => ?_
    ·refine sj <| bind_elim h fun x40 hx40 h => CallH.data _ false rfl (math_bits_TrailingZeros_ok E (IntKind.u64.wrap a2) x40 hx40) <| sn <| sj <| sn <| sj <| sn <| bind_elim h fun j41 hj41 h => ?_
     refine SeqJ.join (St.of [⟨0, AV.list 1 (a0.map byteAV), none⟩, ⟨1, AV.int .u64 j41.1, none⟩, ⟨3, bb a3, none⟩, ⟨4, bb a4, none⟩, ⟨10, AV.list 1 (([] : List UInt8).map byteAV), some 0⟩, ⟨11, ss [], none⟩, ⟨12, AV.ptr 0 0, none⟩, ⟨13, ii j41.2.1, none⟩] [.cells 168 (j41.2.2.map byteAV) []] [2]) ?_ ?_
     ·clear h; have h := hj41; clear hj41
      refine LoopE.img (fun x : (Int × Int × (List UInt8)) => St.of [⟨0, AV.list 1 (a0.map byteAV), none⟩, ⟨1, AV.int .u64 x.1, none⟩, ⟨3, bb a3, none⟩, ⟨4, bb a4, none⟩, ⟨10, AV.list 1 (([] : List UInt8).map byteAV), some 0⟩, ⟨11, ss [], none⟩, ⟨12, AV.ptr 0 0, none⟩, ⟨13, ii x.2.1, none⟩, ⟨14, AV.int .u64 (IntKind.u64.wrap x40), none⟩, ⟨15, AV.int .u64 (IntKind.u64.wrap a2), none⟩, ⟨16, AV.int .u64 (IntKind.u64.wrap ((IntKind.u64.wrap a2) - (1 : Int))), none⟩] [.cells 168 (x.2.2.map byteAV) []] [2]) (strconv_formatBits_b3 a2 x40) (a1, (65 : Int), (List.replicate 65 (0 : UInt8))) h ?_ ?_
      ·refine Gho.to _ _ _ [0] ?_ ?_ ?_ rfl rfl ?_
       ·exact ⟨⟨rfl, rfl, rfl⟩, trivial⟩
       ·exact (and_tt' (noB_map _ (fun _ => rfl) _) rfl)
       ·exact rfl
       ·exact ⟨rfl, rfl, trivial, rfl, rfl, trivial, rfl, rfl, trivial, rfl, rfl, trivial, rfl, rfl, ⟨rfl, rfl, rfl⟩, rfl, rfl, trivial, rfl, rfl, trivial, rfl, rfl, trivial, rfl, rfl, trivial, rfl, rfl, trivial, rfl, rfl, trivial, trivial⟩
      intro n3 x y3 h hl3 hr3
      obtain ⟨s42, s43, s44⟩ := x
      unfold strconv_formatBits_b3 at h
      dsimp only at h
      refine sj <| sj <| sn ?_
      refine Br.of h (fun ht h => ?_) fun ht h => ?_
      ·refine sn <| sj <| sn <| sj <| bind_elim h fun x45 hx45 h => ?_
       refine xi x45 (ai (fun hg => idx_some hx45) ?_)
       refine chk_elim h fun q46 h => ai (fun _ => q46) <| bind_elim h fun x47 hx47 h => ?_
       have qx47 := (seti_some hx47).1
       have hx47e := (seti_some hx47).2
       refine ai ⟨rfl, rfl, rfl, seti_len byteAV qx47 0 rfl⟩ (xi (x47.map byteAV) (ai (fun hw => seti_u8 hw qx47 hx47e) ?_))
       refine sn <| chk_elim h fun q48 h => ai (fun _ => q48) ?_
       replace h := oi h
       refine xi ⟨(n3, ((s42 / 2 ^ (IntKind.u64.wrap x40).toNat), (IntKind.i64.wrap (s43 - (1 : Int))), x47)), hl3 _ h.symm⟩ (ai (Nat.lt_succ_self _) ?_)
       refine Gho.to _ _ _ [0] ?_ ?_ ?_ rfl rfl ?_
       ·exact ⟨⟨rfl, rfl, rfl⟩, trivial⟩
       ·exact (and_tt' (noB_map _ (fun _ => rfl) _) rfl)
       ·exact rfl
       ·exact ⟨rfl, rfl, trivial, rfl, rfl, trivial, rfl, rfl, trivial, rfl, rfl, trivial, rfl, rfl, ⟨rfl, rfl, rfl⟩, rfl, rfl, trivial, rfl, rfl, trivial, rfl, rfl, trivial, rfl, rfl, trivial, rfl, rfl, trivial, rfl, rfl, trivial, trivial⟩
      ·replace h := oi h
       replace h := hr3 _ h.symm
       subst h
       refine Gho.to _ _ _ [0] ?_ ?_ ?_ rfl rfl ?_
       ·exact ⟨⟨rfl, rfl, rfl⟩, trivial⟩
       ·exact (and_tt' (noB_map _ (fun _ => rfl) _) rfl)
       ·exact rfl
       ·exact ⟨rfl, rfl, trivial, rfl, rfl, trivial, rfl, rfl, trivial, rfl, rfl, trivial, rfl, rfl, ⟨rfl, rfl, rfl⟩, rfl, rfl, trivial, rfl, rfl, trivial, rfl, rfl, trivial, trivial⟩
     ·clear hj41
      refine sj <| sn <| bind_elim h fun x49 hx49 h => ?_
      refine xi x49 (ai (fun hg => idx_some hx49) ?_)
      refine chk_elim h fun q50 h => ai (fun _ => q50) <| bind_elim h fun x51 hx51 h => ?_
      have qx51 := (seti_some hx51).1
      have hx51e := (seti_some hx51).2
      refine ai ⟨rfl, rfl, rfl, seti_len byteAV qx51 0 rfl⟩ (xi (x51.map byteAV) (ai (fun hw => seti_u8 hw qx51 hx51e) ?_))
      replace h := oi h
      subst h
      refine Gho.to _ _ _ [0] ?_ ?_ ?_ rfl rfl ?_
      ·exact ⟨⟨rfl, rfl, rfl⟩, trivial⟩
      ·exact (and_tt' (noB_map _ (fun _ => rfl) _) rfl)
      ·exact rfl
      ·exact ⟨rfl, rfl, trivial, rfl, rfl, trivial, rfl, rfl, trivial, rfl, rfl, ⟨rfl, rfl, rfl⟩, rfl, rfl, trivial, rfl, rfl, trivial, rfl, rfl, trivial, trivial⟩
    ·refine sj <| sn <| bind_elim h fun j52 hj52 h => ?_
     refine SeqJ.join (St.of [⟨0, AV.list 1 (a0.map byteAV), none⟩, ⟨1, AV.int .u64 j52.1, none⟩, ⟨3, bb a3, none⟩, ⟨4, bb a4, none⟩, ⟨10, AV.list 1 (([] : List UInt8).map byteAV), some 0⟩, ⟨11, ss [], none⟩, ⟨12, AV.ptr 0 0, none⟩, ⟨13, ii j52.2.1, none⟩] [.cells 168 (j52.2.2.map byteAV) []] [2]) ?_ ?_
     ·clear h; have h := hj52; clear hj52
      refine LoopE.img (fun x : (Int × Int × (List UInt8)) => St.of [⟨0, AV.list 1 (a0.map byteAV), none⟩, ⟨1, AV.int .u64 x.1, none⟩, ⟨3, bb a3, none⟩, ⟨4, bb a4, none⟩, ⟨10, AV.list 1 (([] : List UInt8).map byteAV), some 0⟩, ⟨11, ss [], none⟩, ⟨12, AV.ptr 0 0, none⟩, ⟨13, ii x.2.1, none⟩, ⟨17, AV.int .u64 (IntKind.u64.wrap a2), none⟩] [.cells 168 (x.2.2.map byteAV) []] [2]) (strconv_formatBits_b4 a2) (a1, (65 : Int), (List.replicate 65 (0 : UInt8))) h ?_ ?_
      ·refine Gho.to _ _ _ [0] ?_ ?_ ?_ rfl rfl ?_
       ·exact ⟨⟨rfl, rfl, rfl⟩, trivial⟩
       ·exact (and_tt' (noB_map _ (fun _ => rfl) _) rfl)
       ·exact rfl
       ·exact ⟨rfl, rfl, trivial, rfl, rfl, trivial, rfl, rfl, trivial, rfl, rfl, trivial, rfl, rfl, ⟨rfl, rfl, rfl⟩, rfl, rfl, trivial, rfl, rfl, trivial, rfl, rfl, trivial, rfl, rfl, trivial, trivial⟩
      intro n4 x y4 h hl4 hr4
      obtain ⟨s53, s54, s55⟩ := x
      unfold strconv_formatBits_b4 at h
      dsimp only at h
      refine sj <| sj <| sn ?_
      refine Br.of h (fun ht h => ?_) fun ht h => ?_
      ·refine sn <| sj <| sn <| sj <| chk_elim h fun q56 h => ai (fun _ => q56) <| sn <| sj <| bind_elim h fun x57 hx57 h => ?_
       refine xi x57 (ai (fun hg => idx_some hx57) ?_)
       refine chk_elim h fun q58 h => ai (fun _ => q58) <| bind_elim h fun x59 hx59 h => ?_
       have qx59 := (seti_some hx59).1
       have hx59e := (seti_some hx59).2
       refine ai ⟨rfl, rfl, rfl, seti_len byteAV qx59 0 rfl⟩ (xi (x59.map byteAV) (ai (fun hw => seti_u8 hw qx59 hx59e) ?_))
       refine SeqN.via (St.of [⟨0, AV.list 1 (a0.map byteAV), none⟩, ⟨3, bb a3, none⟩, ⟨4, bb a4, none⟩, ⟨10, AV.list 1 (([] : List UInt8).map byteAV), some 0⟩, ⟨11, ss [], none⟩, ⟨12, AV.ptr 0 0, none⟩, ⟨13, ii (IntKind.i64.wrap (s54 - (1 : Int))), none⟩, ⟨17, AV.int .u64 (IntKind.u64.wrap a2), none⟩, ⟨18, AV.int .u64 (IntKind.u64.wrap (s53.tdiv (IntKind.u64.wrap a2))), none⟩] [.cells 168 (x59.map byteAV) []] [2]) ?_ ?_
       ·refine Gho.to _ _ _ [0] ?_ ?_ ?_ rfl rfl ?_
        ·exact ⟨⟨rfl, rfl, rfl⟩, trivial⟩
        ·exact (and_tt' (noB_map _ (fun _ => rfl) _) rfl)
        ·exact rfl
        ·exact ⟨rfl, rfl, trivial, rfl, rfl, trivial, rfl, rfl, trivial, rfl, rfl, ⟨rfl, rfl, rfl⟩, rfl, rfl, trivial, rfl, rfl, trivial, rfl, rfl, trivial, rfl, rfl, trivial, rfl, rfl, trivial, trivial⟩
       replace h := oi h
       refine xi ⟨(n4, ((IntKind.u64.wrap (s53.tdiv (IntKind.u64.wrap a2))), (IntKind.i64.wrap (s54 - (1 : Int))), x59)), hl4 _ h.symm⟩ (ai (Nat.lt_succ_self _) ?_)
       refine Gho.to _ _ _ [0] ?_ ?_ ?_ rfl rfl ?_
       ·exact ⟨⟨rfl, rfl, rfl⟩, trivial⟩
       ·exact (and_tt' (noB_map _ (fun _ => rfl) _) rfl)
       ·exact rfl
       ·exact ⟨rfl, rfl, trivial, rfl, rfl, trivial, rfl, rfl, trivial, rfl, rfl, trivial, rfl, rfl, ⟨rfl, rfl, rfl⟩, rfl, rfl, trivial, rfl, rfl, trivial, rfl, rfl, trivial, rfl, rfl, trivial, trivial⟩
      ·replace h := oi h
       replace h := hr4 _ h.symm
       subst h
       refine Gho.to _ _ _ [0] ?_ ?_ ?_ rfl rfl ?_
       ·exact ⟨⟨rfl, rfl, rfl⟩, trivial⟩
       ·exact (and_tt' (noB_map _ (fun _ => rfl) _) rfl)
       ·exact rfl
       ·exact ⟨rfl, rfl, trivial, rfl, rfl, trivial, rfl, rfl, trivial, rfl, rfl, trivial, rfl, rfl, ⟨rfl, rfl, rfl⟩, rfl, rfl, trivial, rfl, rfl, trivial, rfl, rfl, trivial, trivial⟩
     ·clear hj52
      refine sj <| sn <| bind_elim h fun x60 hx60 h => ?_
      refine xi x60 (ai (fun hg => idx_some hx60) ?_)
      refine chk_elim h fun q61 h => ai (fun _ => q61) <| bind_elim h fun x62 hx62 h => ?_
      have qx62 := (seti_some hx62).1
      have hx62e := (seti_some hx62).2
      refine ai ⟨rfl, rfl, rfl, seti_len byteAV qx62 0 rfl⟩ (xi (x62.map byteAV) (ai (fun hw => seti_u8 hw qx62 hx62e) ?_))
      replace h := oi h
      subst h
      refine Gho.to _ _ _ [0] ?_ ?_ ?_ rfl rfl ?_
      ·exact ⟨⟨rfl, rfl, rfl⟩, trivial⟩
      ·exact (and_tt' (noB_map _ (fun _ => rfl) _) rfl)
      ·exact rfl
      ·exact ⟨rfl, rfl, trivial, rfl, rfl, trivial, rfl, rfl, trivial, rfl, rfl, ⟨rfl, rfl, rfl⟩, rfl, rfl, trivial, rfl, rfl, trivial, rfl, rfl, trivial, trivial⟩
   ·clear hj38
    refine sj <| sj <| sn ?_
    refine Br.of h (fun ht h => ?_) fun ht h => ?_
    ·refine sj <| sn <| chk_elim h fun q63 h => ai (fun _ => q63) <| bind_elim h fun x64 hx64 h => ?_
     have qx64 := (seti_some hx64).1
     have hx64e := (seti_some hx64).2
     refine ai ⟨rfl, rfl, rfl, seti_len byteAV qx64 0 rfl⟩ (xi (x64.map byteAV) (ai (fun hw => seti_u8 hw qx64 hx64e) ?_))
     refine sn <| sj <| sj <| sn ?_
     refine Br.of h (fun ht h => ?_) fun ht h => ?_
     ·refine sj <| chk_elim h fun q66 h => ai ⟨fun _ => q66, lb rfl⟩ <| NormE.to (AV.row 0 (0 + (IntKind.i64.wrap (j38.1 - (1 : Int))).toNat * 1) ((65 : Int).toNat - (IntKind.i64.wrap (j38.1 - (1 : Int))).toNat)) (fun _ => rfl) ?_
      cases h
     ·refine sn <| sj <| chk_elim h fun q68 h => ai ⟨fun _ => q68, lb rfl⟩ <| NormE.to (AV.row 0 (0 + (IntKind.i64.wrap (j38.1 - (1 : Int))).toNat * 1) ((65 : Int).toNat - (IntKind.i64.wrap (j38.1 - (1 : Int))).toNat)) (fun _ => rfl) <| chk_elim h fun q69 h => ?_
      refine ai rfl (xi ((x64.drop (0 + (IntKind.i64.wrap (j38.1 - (1 : Int))).toNat * 1)).take ((65 : Int).toNat - (IntKind.i64.wrap (j38.1 - (1 : Int))).toNat)) (ai (row_text2 q69) ?_))
      refine sn ?_
      replace h := oi h
      refine RetE.plain ?_
      subst h; exact ai rfl (ai rfl rfl)
    ·refine sn <| sj <| sj <| sn ?_
     refine Br.of h (fun ht h => ?_) fun ht h => ?_
     ·refine sj <| chk_elim h fun q71 h => ai ⟨fun _ => q71, lb rfl⟩ <| NormE.to (AV.row 0 (0 + j38.1.toNat * 1) ((65 : Int).toNat - j38.1.toNat)) (fun _ => rfl) ?_
      cases h
     ·refine sn <| sj <| chk_elim h fun q73 h => ai ⟨fun _ => q73, lb rfl⟩ <| NormE.to (AV.row 0 (0 + j38.1.toNat * 1) ((65 : Int).toNat - j38.1.toNat)) (fun _ => rfl) <| chk_elim h fun q74 h => ?_
      refine ai rfl (xi ((j38.2.drop (0 + j38.1.toNat * 1)).take ((65 : Int).toNat - j38.1.toNat)) (ai (row_text2 q74) ?_))
      refine sn ?_
      replace h := oi h
      refine RetE.plain ?_
      subst h; exact ai rfl (ai rfl rfl)
theorem fu16i_ok (E : Pm.Env) [LaidB E] (a0 : Int) (a1 : Int) (r : Bytes) (h : fu16i a0 a1 = some r) : FnR E Tryz.prog 115 [AV.int .u64 a0, ii a1] (ss r) false := by
 refine FnR.of_ev (T := T) (rows := []) tOk mixed Tryz.func115 rfl (by kernel_rfl) (by kernel_rfl) rfl fun hwf => ?_
 unfold fu16i at h
 refine sj <| sn <| sj <| sj <| sn ?_
 refine Br.of h (fun ht h => ?_) fun ht h => ?_
 ·refine sj <| sj <| sn ?_
  refine Br.of h (fun ht h => ?_) fun ht h => ?_
  ·refine sj ?_
   cases h
  ·refine sn <| sj <| ai rfl <| sn <| sj ?_
   cases h
 ·refine sn <| sj <| bind_elim h fun x1 hx1 h => CallH.data _ false rfl (strconv_formatBits_ok E ([] : List UInt8) a0 a1 false false x1 hx1) <| sn <| sj <| sn ?_
  replace h := oi h
  refine RetE.plain ?_
  subst h; exact ai rfl (ai rfl rfl)
theorem fu16_ok (E : Pm.Env) [LaidB E] (a0 : Int) (a1 : Int) (r : Bytes) (h : fu16 a0 a1 = some r) : FnR E Tryz.prog 80 [AV.int .u64 a0, ii a1] (ss r) false := by
 refine FnR.of_ev (T := T) (rows := []) tOk mixed Tryz.func80 rfl (by kernel_rfl) (by kernel_rfl) rfl fun hwf => ?_
 unfold fu16 at h
 refine sj <| sn <| sj <| bind_elim h fun x1 hx1 h => CallH.data _ false rfl (fu16i_ok E a0 a1 x1 hx1) <| sn ?_
 replace h := oi h
 refine RetE.plain ?_
 subst h; exact ai rfl (ai rfl rfl)
end Go.Proofs.YtpionnihpibglaaGreatDoor
