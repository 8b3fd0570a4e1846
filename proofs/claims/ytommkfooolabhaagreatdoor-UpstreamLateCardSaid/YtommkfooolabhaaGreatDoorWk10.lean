/-
  The functions do what their images say: walks, written by a program of mine (gen.py).
-/
import Derived.Test.YtommkfooolabhaaGreatDoorIh1
import Derived.Test.YtommkfooolabhaaGreatDoorGh0
import Derived.Test.YtommkfooolabhaaGreatDoorPm31
namespace Go.Proofs.YtommkfooolabhaaGreatDoor
open Go Go.Pm
set_option linter.unusedSimpArgs false
open And renaming intro → ai
open Exists renaming intro → xi
open Option.some renaming inj → oi
open _root_.Nat renaming le_of_ble_eq_true → lb
open Go.Pm.SeqJ renaming go → sj
open Go.Pm.SeqN renaming go → sn
set_option maxRecDepth 100000
set_option maxHeartbeats 1200000
set_option linter.unusedVariables false
instance bytealg_IndexByteString_ok_i (E : Pm.Env) (a0 : Bytes) (a1 : Int) : Ok E (bytealg_IndexByteString a0 a1) (fun r => FnR E Tryz.prog 207 [ss a0, AV.int .u8 a1] (ii r) false) := ⟨bytealg_IndexByteString_ok E a0 a1⟩
instance strings_Join_ok_i (E : Pm.Env) (a0 : List Bytes) (a1 : Bytes) : Ok E (strings_Join a0 a1) (fun r => FnR E Tryz.prog 112 [AV.list 1 (a0.map AV.str), ss a1] (ss r) false) := ⟨strings_Join_ok E a0 a1⟩
instance strconv_FormatUint_ok_i (E : Pm.Env) [LaidE E] (a0 a1 : Int) : Ok E (strconv_FormatUint a0 a1) (fun r => FnR E Tryz.prog 147 [AV.int .u64 a0, ii a1] (ss r) false) := ⟨strconv_FormatUint_ok E a0 a1⟩
instance strings_Split_ok_i (E : Pm.Env) [LaidM E] (a0 a1 : Bytes) : Ok E (strings_Split a0 a1) (fun r => FnR E Tryz.prog 139 [ss a0, ss a1] (AV.list 1 (r.map AV.str)) false) := ⟨strings_Split_ok E a0 a1⟩
instance strings_SplitN_ok_i (E : Pm.Env) [LaidM E] (a0 a1 : Bytes) (a2 : Int) : Ok E (strings_SplitN a0 a1 a2) (fun r => FnR E Tryz.prog 136 [ss a0, ss a1, ii a2] (AV.list 1 (r.map AV.str)) false) := ⟨strings_SplitN_ok E a0 a1 a2⟩
instance : Enc S_Field S_Field.av := ⟨trivial⟩
theorem stringslite_HasSuffix_ok (E : Pm.Env) [LaidM E] (a0 : Bytes) (a1 : Bytes) (r : Bool) (h : stringslite_HasSuffix a0 a1 = some r) : FnR E Tryz.prog 170 [ss a0, ss a1] (bb r) false := by
 refine FnR.of_ev (T := T) (rows := []) tOk mixed Tryz.func170 rfl (by kernel_rfl) (by kernel_rfl) rfl fun hwf => ?_
 unfold stringslite_HasSuffix at h
 exact W
instance stringslite_HasSuffix_ok_i (E : Pm.Env) [LaidM E] (a0 : Bytes) (a1 : Bytes) : Ok E (stringslite_HasSuffix a0 a1) (fun r => FnR E Tryz.prog 170 [ss a0, ss a1] (bb r) false) := ⟨stringslite_HasSuffix_ok E a0 a1⟩
theorem stringslite_TrimSuffix_ok (E : Pm.Env) [LaidM E] (a0 : Bytes) (a1 : Bytes) (r : Bytes) (h : stringslite_TrimSuffix a0 a1 = some r) : FnR E Tryz.prog 140 [ss a0, ss a1] (ss r) false := by
 refine FnR.of_ev (T := T) (rows := []) tOk mixed Tryz.func140 rfl (by kernel_rfl) (by kernel_rfl) rfl fun hwf => ?_
 unfold stringslite_TrimSuffix at h
 exact W
instance stringslite_TrimSuffix_ok_i (E : Pm.Env) [LaidM E] (a0 : Bytes) (a1 : Bytes) : Ok E (stringslite_TrimSuffix a0 a1) (fun r => FnR E Tryz.prog 140 [ss a0, ss a1] (ss r) false) := ⟨stringslite_TrimSuffix_ok E a0 a1⟩
theorem strings_TrimSuffix_ok (E : Pm.Env) [LaidM E] (a0 : Bytes) (a1 : Bytes) (r : Bytes) (h : strings_TrimSuffix a0 a1 = some r) : FnR E Tryz.prog 106 [ss a0, ss a1] (ss r) false := by
 refine FnR.of_ev (T := T) (rows := []) tOk mixed Tryz.func106 rfl (by kernel_rfl) (by kernel_rfl) rfl fun hwf => ?_
 unfold strings_TrimSuffix at h
 exact W
instance strings_TrimSuffix_ok_i (E : Pm.Env) [LaidM E] (a0 : Bytes) (a1 : Bytes) : Ok E (strings_TrimSuffix a0 a1) (fun r => FnR E Tryz.prog 106 [ss a0, ss a1] (ss r) false) := ⟨strings_TrimSuffix_ok E a0 a1⟩
theorem stringslite_IndexByte_ok (E : Pm.Env) [LaidM E] (a0 : Bytes) (a1 : Int) (r : Int) (h : stringslite_IndexByte a0 a1 = some r) : FnR E Tryz.prog 188 [ss a0, AV.int .u8 a1] (ii r) false := by
 refine FnR.of_ev (T := T) (rows := []) tOk mixed Tryz.func188 rfl (by kernel_rfl) (by kernel_rfl) rfl fun hwf => ?_
 unfold stringslite_IndexByte at h
 exact W
instance stringslite_IndexByte_ok_i (E : Pm.Env) [LaidM E] (a0 : Bytes) (a1 : Int) : Ok E (stringslite_IndexByte a0 a1) (fun r => FnR E Tryz.prog 188 [ss a0, AV.int .u8 a1] (ii r) false) := ⟨stringslite_IndexByte_ok E a0 a1⟩
theorem stringslite_Index_ok (E : Pm.Env) [LaidM E] (a0 : Bytes) (a1 : Bytes) (r : Int) (h : stringslite_Index a0 a1 = some r) : FnR E Tryz.prog 166 [ss a0, ss a1] (ii r) false := by
 refine FnR.of_ev (T := T) (rows := []) tOk mixed Tryz.func166 rfl (by kernel_rfl) (by kernel_rfl) rfl fun hwf => ?_
 unfold stringslite_Index at h
 exact W
instance stringslite_Index_ok_i (E : Pm.Env) [LaidM E] (a0 : Bytes) (a1 : Bytes) : Ok E (stringslite_Index a0 a1) (fun r => FnR E Tryz.prog 166 [ss a0, ss a1] (ii r) false) := ⟨stringslite_Index_ok E a0 a1⟩
theorem stringslite_Cut_ok (E : Pm.Env) [LaidM E] (a0 : Bytes) (a1 : Bytes) (r : (Bytes × Bytes × Bool)) (h : stringslite_Cut a0 a1 = some r) : FnR E Tryz.prog 135 [ss a0, ss a1] (AV.tup [ss r.1, ss r.2.1, bb r.2.2]) false := by
 refine FnR.of_ev (T := T) (rows := []) tOk mixed Tryz.func135 rfl (by kernel_rfl) (by kernel_rfl) rfl fun hwf => ?_
 unfold stringslite_Cut at h
 exact W
instance stringslite_Cut_ok_i (E : Pm.Env) [LaidM E] (a0 : Bytes) (a1 : Bytes) : Ok E (stringslite_Cut a0 a1) (fun r => FnR E Tryz.prog 135 [ss a0, ss a1] (AV.tup [ss r.1, ss r.2.1, bb r.2.2]) false) := ⟨stringslite_Cut_ok E a0 a1⟩
theorem strings_Cut_ok (E : Pm.Env) [LaidM E] (a0 : Bytes) (a1 : Bytes) (r : (Bytes × Bytes × Bool)) (h : strings_Cut a0 a1 = some r) : FnR E Tryz.prog 103 [ss a0, ss a1] (AV.tup [ss r.1, ss r.2.1, bb r.2.2]) false := by
 refine FnR.of_ev (T := T) (rows := []) tOk mixed Tryz.func103 rfl (by kernel_rfl) (by kernel_rfl) rfl fun hwf => ?_
 unfold strings_Cut at h
 exact W
instance strings_Cut_ok_i (E : Pm.Env) [LaidM E] (a0 : Bytes) (a1 : Bytes) : Ok E (strings_Cut a0 a1) (fun r => FnR E Tryz.prog 103 [ss a0, ss a1] (AV.tup [ss r.1, ss r.2.1, bb r.2.2]) false) := ⟨strings_Cut_ok E a0 a1⟩
theorem strings_trimRightByte_ok (E : Pm.Env) [LaidM E] (a0 : Bytes) (a1 : Int) (r : Bytes) (h : strings_trimRightByte a0 a1 = some r) : FnR E Tryz.prog 195 [ss a0, AV.int .u8 a1] (ss r) false := by
 refine FnR.of_ev (T := T) (rows := []) tOk mixed Tryz.func195 rfl (by kernel_rfl) (by kernel_rfl) rfl fun hwf => ?_
 unfold strings_trimRightByte at h
 refine sj <| sn <| bind_elim h fun j1 hj1 h => ?_
 refine SeqJ.join (St.of [⟨0, ss j1, none⟩] [] []) ?_ ?_
 ·clear h; have h := hj1; clear hj1
  refine LoopE.img (fun x : Bytes => St.of [⟨0, ss x, none⟩, ⟨1, AV.int .u8 a1, none⟩] [] []) (strings_trimRightByte_b1 a1) a0 h ?_ ?_
  ·exact gT []
  intro n1 x y1 h hl1 hr1
  revert h; revert x; intro s2 h
  unfold strings_trimRightByte_b1 at h
  exact W
 ·clear hj1
  exact W
instance strings_trimRightByte_ok_i (E : Pm.Env) [LaidM E] (a0 : Bytes) (a1 : Int) : Ok E (strings_trimRightByte a0 a1) (fun r => FnR E Tryz.prog 195 [ss a0, AV.int .u8 a1] (ss r) false) := ⟨strings_trimRightByte_ok E a0 a1⟩
theorem strings_trimLeftByte_ok (E : Pm.Env) [LaidM E] (a0 : Bytes) (a1 : Int) (r : Bytes) (h : strings_trimLeftByte a0 a1 = some r) : FnR E Tryz.prog 194 [ss a0, AV.int .u8 a1] (ss r) false := by
 refine FnR.of_ev (T := T) (rows := []) tOk mixed Tryz.func194 rfl (by kernel_rfl) (by kernel_rfl) rfl fun hwf => ?_
 unfold strings_trimLeftByte at h
 refine sj <| sn <| bind_elim h fun j1 hj1 h => ?_
 refine SeqJ.join (St.of [⟨0, ss j1, none⟩] [] []) ?_ ?_
 ·clear h; have h := hj1; clear hj1
  refine LoopE.img (fun x : Bytes => St.of [⟨0, ss x, none⟩, ⟨1, AV.int .u8 a1, none⟩] [] []) (strings_trimLeftByte_b1 a1) a0 h ?_ ?_
  ·exact gT []
  intro n1 x y1 h hl1 hr1
  revert h; revert x; intro s2 h
  unfold strings_trimLeftByte_b1 at h
  exact W
 ·clear hj1
  exact W
instance strings_trimLeftByte_ok_i (E : Pm.Env) [LaidM E] (a0 : Bytes) (a1 : Int) : Ok E (strings_trimLeftByte a0 a1) (fun r => FnR E Tryz.prog 194 [ss a0, AV.int .u8 a1] (ss r) false) := ⟨strings_trimLeftByte_ok E a0 a1⟩
theorem strings_makeASCIISet_ok (E : Pm.Env) [LaidM E] (a0 : Bytes) (r : ((List Bool) × Bool)) (h : strings_makeASCIISet a0 = some r) : FnR E Tryz.prog 196 [ss a0] (AV.tup [AV.agg (r.1.map AV.bool), bb r.2]) false := by
 refine FnR.of_ev (T := T) (rows := []) tOk mixed Tryz.func196 rfl (by kernel_rfl) (by kernel_rfl) rfl fun hwf => ?_
 unfold strings_makeASCIISet at h
 refine sj <| ai rfl <| sn <| sj <| sj <| sn ?_
 refine LoopE.img (fun x : (Int × (List Bool)) => St.of [⟨0, ss a0, none⟩, ⟨2, AV.ptr 0 0, none⟩, ⟨4, ii x.1, none⟩] [.cells 232 (x.2.map AV.bool) []] []) (strings_makeASCIISet_b1 a0) ((0 : Int), (List.replicate 256 false)) h ?_ ?_
 ·exact gT []
 intro n1 x y1 h hl1 hr1
 obtain ⟨s1, s2⟩ := x
 unfold strings_makeASCIISet_b1 at h
 dsimp only at h
 refine sj <| sj <| NormE.same <| sn ?_
 refine Br.of h (fun ht h => ?_) fun ht h => ?_
 ·refine sn <| sj <| sj <| bind_elim h fun x3 hx3 h => ?_
  refine xi x3 (ai (fun hg => idx_some hx3) ?_)
  refine sn <| sj <| sj <| sn ?_
  refine Br.of h (fun ht h => ?_) fun ht h => ?_
  ·refine sj <| chk_elim h fun q4 h => ai ⟨lb rfl, arr_fits _ q4⟩ ?_
   refine xi none (ai rfl ?_)
   refine NormE.to (AV.agg (s2.map AV.bool)) (fun _ => arr_load _ q4) <| chk_elim h fun q5 h => ?_
   refine ai ⟨rfl, arr_len _ q5.1, rfl, arr_fits _ q5.2⟩ (xi (s2.map AV.bool) (ai (fun _ => arr_store _ _ q5.1 (by rw [List.length_map]; exact q5.2)) ?_))
   refine sn <| chk_elim h fun hd1 h => ?_
   replace h := oi h
   replace h := hr1 _ h.symm
   refine RetE.plain ?_
   refine ai ⟨lb rfl, arr_fits _ hd1⟩ (xi (AV.agg (s2.map AV.bool)) (ai (arr_load _ hd1) ?_))
   exact ai (and_tt' (puB_map _ (fun _ => rfl) _) (and_tt' rfl rfl)) (ai (congrArg (fun r : ((List Bool) × Bool) => AV.tup [AV.agg (r.1.map AV.bool), bb r.2]) h) rfl)
  ·exact W
 ·refine sn <| sj <| chk_elim h fun q8 h => ai ⟨lb rfl, arr_fits _ q8⟩ ?_
  refine xi none (ai rfl ?_)
  refine NormE.to (AV.agg (s2.map AV.bool)) (fun _ => arr_load _ q8) <| chk_elim h fun q9 h => ?_
  refine ai ⟨rfl, arr_len _ q9.1, rfl, arr_fits _ q9.2⟩ (xi (s2.map AV.bool) (ai (fun _ => arr_store _ _ q9.1 (by rw [List.length_map]; exact q9.2)) ?_))
  refine sn <| chk_elim h fun hd1 h => ?_
  replace h := oi h
  replace h := hr1 _ h.symm
  refine RetE.plain ?_
  refine ai ⟨lb rfl, arr_fits _ hd1⟩ (xi (AV.agg (s2.map AV.bool)) (ai (arr_load _ hd1) ?_))
  exact ai (and_tt' (puB_map _ (fun _ => rfl) _) (and_tt' rfl rfl)) (ai (congrArg (fun r : ((List Bool) × Bool) => AV.tup [AV.agg (r.1.map AV.bool), bb r.2]) h) rfl)
instance strings_makeASCIISet_ok_i (E : Pm.Env) [LaidM E] (a0 : Bytes) : Ok E (strings_makeASCIISet a0) (fun r => FnR E Tryz.prog 196 [ss a0] (AV.tup [AV.agg (r.1.map AV.bool), bb r.2]) false) := ⟨strings_makeASCIISet_ok E a0⟩
theorem strings_asciiSet_contains_ok (E : Pm.Env) [LaidM E] (a0 : (List Bool)) (a1 : Int) (r : Bool) (h : strings_asciiSet_contains a0 a1 = some r) : FnR E Tryz.prog 212 [AV.iptr (a0.map AV.bool), AV.int .u8 a1] (bb r) false := by
 refine FnR.of_ev (T := T) (rows := []) tOk mixed Tryz.func212 rfl (by kernel_rfl) (by kernel_rfl) rfl fun hwf => ?_
 unfold strings_asciiSet_contains at h
 exact W
instance strings_asciiSet_contains_ok_i (E : Pm.Env) [LaidM E] (a0 : (List Bool)) (a1 : Int) : Ok E (strings_asciiSet_contains a0 a1) (fun r => FnR E Tryz.prog 212 [AV.iptr (a0.map AV.bool), AV.int .u8 a1] (bb r) false) := ⟨strings_asciiSet_contains_ok E a0 a1⟩
theorem strings_trimRightASCII_ok (E : Pm.Env) [LaidM E] (a0 : Bytes) (a1 : (List Bool)) (r : Bytes) (h : strings_trimRightASCII a0 a1 = some r) : FnR E Tryz.prog 198 [ss a0, AV.iptr (a1.map AV.bool)] (ss r) false := by
 refine FnR.of_ev (T := T) (rows := []) tOk mixed Tryz.func198 rfl (by kernel_rfl) (by kernel_rfl) rfl fun hwf => ?_
 unfold strings_trimRightASCII at h
 refine sj <| sn <| bind_elim h fun j1 hj1 h => ?_
 refine SeqJ.join (St.of [⟨0, ss j1, none⟩] [] []) ?_ ?_
 ·clear h; have h := hj1; clear hj1
  refine LoopE.img (fun x : Bytes => St.of [⟨0, ss x, none⟩, ⟨1, AV.iptr (a1.map AV.bool), none⟩] [] []) (strings_trimRightASCII_b1 a1) a0 h ?_ ?_
  ·exact gT []
  intro n1 x y1 h hl1 hr1
  revert h; revert x; intro s2 h
  unfold strings_trimRightASCII_b1 at h
  exact W
 ·clear hj1
  exact W
instance strings_trimRightASCII_ok_i (E : Pm.Env) [LaidM E] (a0 : Bytes) (a1 : (List Bool)) : Ok E (strings_trimRightASCII a0 a1) (fun r => FnR E Tryz.prog 198 [ss a0, AV.iptr (a1.map AV.bool)] (ss r) false) := ⟨strings_trimRightASCII_ok E a0 a1⟩
theorem strings_trimLeftASCII_ok (E : Pm.Env) [LaidM E] (a0 : Bytes) (a1 : (List Bool)) (r : Bytes) (h : strings_trimLeftASCII a0 a1 = some r) : FnR E Tryz.prog 197 [ss a0, AV.iptr (a1.map AV.bool)] (ss r) false := by
 refine FnR.of_ev (T := T) (rows := []) tOk mixed Tryz.func197 rfl (by kernel_rfl) (by kernel_rfl) rfl fun hwf => ?_
 unfold strings_trimLeftASCII at h
 refine sj <| sn <| bind_elim h fun j1 hj1 h => ?_
 refine SeqJ.join (St.of [⟨0, ss j1, none⟩] [] []) ?_ ?_
 ·clear h; have h := hj1; clear hj1
  refine LoopE.img (fun x : Bytes => St.of [⟨0, ss x, none⟩, ⟨1, AV.iptr (a1.map AV.bool), none⟩] [] []) (strings_trimLeftASCII_b1 a1) a0 h ?_ ?_
  ·exact gT []
  intro n1 x y1 h hl1 hr1
  revert h; revert x; intro s2 h
  unfold strings_trimLeftASCII_b1 at h
  exact W
 ·clear hj1
  exact W
instance strings_trimLeftASCII_ok_i (E : Pm.Env) [LaidM E] (a0 : Bytes) (a1 : (List Bool)) : Ok E (strings_trimLeftASCII a0 a1) (fun r => FnR E Tryz.prog 197 [ss a0, AV.iptr (a1.map AV.bool)] (ss r) false) := ⟨strings_trimLeftASCII_ok E a0 a1⟩
theorem unicode_utf8_RuneStart_ok (E : Pm.Env) [LaidM E] (a0 : Int) (r : Bool) (h : unicode_utf8_RuneStart a0 = some r) : FnR E Tryz.prog 223 [AV.int .u8 a0] (bb r) false := by
 refine FnR.of_ev (T := T) (rows := []) tOk mixed Tryz.func223 rfl (by kernel_rfl) (by kernel_rfl) rfl fun hwf => ?_
 unfold unicode_utf8_RuneStart at h
 exact W
instance unicode_utf8_RuneStart_ok_i (E : Pm.Env) [LaidM E] (a0 : Int) : Ok E (unicode_utf8_RuneStart a0) (fun r => FnR E Tryz.prog 223 [AV.int .u8 a0] (bb r) false) := ⟨unicode_utf8_RuneStart_ok E a0⟩
theorem unicode_utf8_decodeRuneInStringSlow_ok (E : Pm.Env) [LaidM E] (a0 : Bytes) (r : (Int × Int)) (h : unicode_utf8_decodeRuneInStringSlow a0 = some r) : FnR E Tryz.prog 221 [ss a0] (AV.tup [AV.int .i32 r.1, ii r.2]) false := by
 refine FnR.of_ev (T := T) (rows := []) tOk mixed Tryz.func221 rfl (by kernel_rfl) (by kernel_rfl) rfl fun hwf => ?_
 unfold unicode_utf8_decodeRuneInStringSlow at h
 exact W
instance unicode_utf8_decodeRuneInStringSlow_ok_i (E : Pm.Env) [LaidM E] (a0 : Bytes) : Ok E (unicode_utf8_decodeRuneInStringSlow a0) (fun r => FnR E Tryz.prog 221 [ss a0] (AV.tup [AV.int .i32 r.1, ii r.2]) false) := ⟨unicode_utf8_decodeRuneInStringSlow_ok E a0⟩
theorem unicode_utf8_DecodeRuneInString_ok (E : Pm.Env) [LaidM E] (a0 : Bytes) (r : (Int × Int)) (h : unicode_utf8_DecodeRuneInString a0 = some r) : FnR E Tryz.prog 210 [ss a0] (AV.tup [AV.int .i32 r.1, ii r.2]) false := by
 refine FnR.of_ev (T := T) (rows := []) tOk mixed Tryz.func210 rfl (by kernel_rfl) (by kernel_rfl) rfl fun hwf => ?_
 unfold unicode_utf8_DecodeRuneInString at h
 exact W
instance unicode_utf8_DecodeRuneInString_ok_i (E : Pm.Env) [LaidM E] (a0 : Bytes) : Ok E (unicode_utf8_DecodeRuneInString a0) (fun r => FnR E Tryz.prog 210 [ss a0] (AV.tup [AV.int .i32 r.1, ii r.2]) false) := ⟨unicode_utf8_DecodeRuneInString_ok E a0⟩
theorem unicode_utf8_DecodeLastRuneInString_ok (E : Pm.Env) [LaidM E] (a0 : Bytes) (r : (Int × Int)) (h : unicode_utf8_DecodeLastRuneInString a0 = some r) : FnR E Tryz.prog 214 [ss a0] (AV.tup [AV.int .i32 r.1, ii r.2]) false := by
 refine FnR.of_ev (T := T) (rows := []) tOk mixed Tryz.func214 rfl (by kernel_rfl) (by kernel_rfl) rfl fun hwf => ?_
 unfold unicode_utf8_DecodeLastRuneInString at h
 refine sj <| sn <| sj <| NormE.same <| sn <| sj <| sj <| sn ?_
 refine Br.of h (fun ht h => ?_) fun ht h => ?_
 ·exact W
 ·refine sn <| sj <| sn <| sj <| bind_elim h fun x1 hx1 h => ?_
  refine xi x1 (ai (fun hg => idx_some hx1) ?_)
  refine sn <| sj <| sj <| sn ?_
  refine Br.of h (fun ht h => ?_) fun ht h => ?_
  ·exact W
  ·refine sn <| sj <| ai rfl <| sn <| bind_elim h fun j2 hj2 h => ?_
   refine SeqJ.join (St.of [⟨0, ss a0, none⟩, ⟨4, ii (a0.length : Int), none⟩, ⟨5, ii j2, none⟩] [] []) ?_ ?_
   ·clear h; have h := hj2; clear hj2
    refine sj <| sn ?_
    refine LoopE.img (fun x : Int => St.of [⟨0, ss a0, none⟩, ⟨4, ii (a0.length : Int), none⟩, ⟨5, ii x, none⟩, ⟨6, ii (imax (IntKind.i64.wrap ((a0.length : Int) - (4 : Int))) (0 : Int)), none⟩] [] []) (unicode_utf8_DecodeLastRuneInString_b1 a0) (IntKind.i64.wrap ((IntKind.i64.wrap ((a0.length : Int) - (1 : Int))) - (1 : Int))) h ?_ ?_
    ·exact gT []
    intro n1 x y1 h hl1 hr1
    revert h; revert x; intro s3 h
    unfold unicode_utf8_DecodeLastRuneInString_b1 at h
    exact W
   ·clear hj2
    exact W
instance unicode_utf8_DecodeLastRuneInString_ok_i (E : Pm.Env) [LaidM E] (a0 : Bytes) : Ok E (unicode_utf8_DecodeLastRuneInString a0) (fun r => FnR E Tryz.prog 214 [ss a0] (AV.tup [AV.int .i32 r.1, ii r.2]) false) := ⟨unicode_utf8_DecodeLastRuneInString_ok E a0⟩
theorem strings_IndexByte_ok (E : Pm.Env) [LaidM E] (a0 : Bytes) (a1 : Int) (r : Int) (h : strings_IndexByte a0 a1 = some r) : FnR E Tryz.prog 165 [ss a0, AV.int .u8 a1] (ii r) false := by
 refine FnR.of_ev (T := T) (rows := []) tOk mixed Tryz.func165 rfl (by kernel_rfl) (by kernel_rfl) rfl fun hwf => ?_
 unfold strings_IndexByte at h
 exact W
instance strings_IndexByte_ok_i (E : Pm.Env) [LaidM E] (a0 : Bytes) (a1 : Int) : Ok E (strings_IndexByte a0 a1) (fun r => FnR E Tryz.prog 165 [ss a0, AV.int .u8 a1] (ii r) false) := ⟨strings_IndexByte_ok E a0 a1⟩
theorem unicode_utf8_ValidRune_ok (E : Pm.Env) [LaidM E] (a0 : Int) (r : Bool) (h : unicode_utf8_ValidRune a0 = some r) : FnR E Tryz.prog 226 [AV.int .i32 a0] (bb r) false := by
 refine FnR.of_ev (T := T) (rows := []) tOk mixed Tryz.func226 rfl (by kernel_rfl) (by kernel_rfl) rfl fun hwf => ?_
 unfold unicode_utf8_ValidRune at h
 exact W
instance unicode_utf8_ValidRune_ok_i (E : Pm.Env) [LaidM E] (a0 : Int) : Ok E (unicode_utf8_ValidRune a0) (fun r => FnR E Tryz.prog 226 [AV.int .i32 a0] (bb r) false) := ⟨unicode_utf8_ValidRune_ok E a0⟩
theorem strings_IndexRune_ok (E : Pm.Env) [LaidM E] (a0 : Bytes) (a1 : Int) (r : Int) (h : strings_IndexRune a0 a1 = some r) : FnR E Tryz.prog 222 [ss a0, AV.int .i32 a1] (ii r) false := by
 refine FnR.of_ev (T := T) (rows := []) tOk mixed Tryz.func222 rfl (by kernel_rfl) (by kernel_rfl) rfl fun hwf => ?_
 unfold strings_IndexRune at h
 refine sj <| sn <| sj <| ai id <| ai (fun hg => (and_r hg)) <| sn ?_
 refine Br.of h (fun ht h => ?_) fun ht h => ?_
 ·exact W
 ·refine sj <| sn ?_
  refine Br.of h (fun ht h => ?_) fun ht h => ?_
  ·refine sj <| sj <| sn ?_
   refine LoopE.img (fun x : Nat => St.of [⟨175, AV.ptr 0 0, none⟩] [.mp (.iter a0 x)] []) (strings_IndexRune_b1 a0) 0 h ?_ ?_
   ·exact gT []
   intro n1 x y1 h hl1 hr1
   revert h; revert x; intro s2 h
   unfold strings_IndexRune_b1 at h
   refine sj ?_
   refine and_of h (fun ht h => ?_) fun ht h => ?_
   ·refine sn <| sj ?_
    refine Br.mk (fun _ => ?_) (fun hf => absurd hf (by decide))
    exact W
   ·refine sn <| sj ?_
    refine Br.mk (fun hf => absurd hf (by decide)) (fun _ => ?_)
    exact W
  ·refine sj <| bind_elim h fun x3 hx3 h => CallH.data _ false rfl (unicode_utf8_ValidRune_ok E a1 x3 hx3) <| sn ?_
   refine Br.of h (fun ht h => ?_) fun ht h => ?_
   ·exact W
   ·refine sj <| sn <| sj <| NormE.same <| sn <| sj <| sn <| sj <| sn <| sj ?_
    refine LoopE.img (fun x : Int => St.of [⟨0, ss a0, none⟩, ⟨7, ss (encB a1), none⟩, ⟨8, ii (IntKind.i64.wrap (((encB a1).length : Int) - (1 : Int))), none⟩, ⟨9, ii x, none⟩] [] []) (strings_IndexRune_b2 a0 a1) (IntKind.i64.wrap (((encB a1).length : Int) - (1 : Int))) h ?_ ?_
    ·exact gT []
    intro n2 x y2 h hl2 hr2
    revert h; revert x; intro s4 h
    unfold strings_IndexRune_b2 at h
    refine sj <| sj <| NormE.same <| sn ?_
    refine Br.of h (fun ht h => ?_) fun ht h => ?_
    ·refine sn <| sj <| sj <| Or.inl <| bind_elim h fun x5 hx5 h => ?_
     refine xi x5 (ai (fun hg => idx_some hx5) ?_)
     refine bind_elim h fun x6 hx6 h => ?_
     refine xi x6 (ai (fun hg => idx_some hx6) ?_)
     refine ai (by kernel_rfl) <| sn ?_
     refine Br.of h (fun ht h => ?_) fun ht h => ?_
     ·refine sj <| Or.inl <| bind_elim h fun x7 hx7 h => ?_
      have qx7 := (slc_some hx7).1
      have hx7e := (slc_some hx7).2
      refine ai (fun _ => qx7) <| NormE.to (ss x7) (fun _ => congrArg ss hx7e.symm) <| bind_elim h fun x8 hx8 h => ?_
      refine xi x8 (ai (fun hg => idx_some hx8) ?_)
      refine bind_elim h fun x9 hx9 h => CallH.data _ false rfl (strings_IndexByte_ok E x7 (x8.toNat : Int) x9 hx9) <| ai (by kernel_rfl) <| sn <| sj <| sj <| sn ?_
      refine Br.of h (fun ht h => ?_) fun ht h => ?_
      ·exact W
      ·refine sn <| sn <| sj <| sj <| sn ?_
       refine LoopE.img (fun x : Int => St.of [⟨0, ss a0, none⟩, ⟨7, ss (encB a1), none⟩, ⟨8, ii (IntKind.i64.wrap (((encB a1).length : Int) - (1 : Int))), none⟩, ⟨9, ii (IntKind.i64.wrap (s4 + (IntKind.i64.wrap (x9 + (1 : Int))))), none⟩, ⟨12, ii x, none⟩] [] []) (strings_IndexRune_b3 a0 a1 s4 x9) (1 : Int) h ?_ ?_
       ·exact gT []
       intro n3 x y3 h hl3 hr3
       revert h; revert x; intro s10 h
       unfold strings_IndexRune_b3 at h
       exact W
     ·refine sn <| sj <| sj <| sn ?_
      refine LoopE.img (fun x : Int => St.of [⟨0, ss a0, none⟩, ⟨7, ss (encB a1), none⟩, ⟨8, ii (IntKind.i64.wrap (((encB a1).length : Int) - (1 : Int))), none⟩, ⟨9, ii s4, none⟩, ⟨12, ii x, none⟩] [] []) (strings_IndexRune_b4 a0 a1 s4) (1 : Int) h ?_ ?_
      ·exact gT []
      intro n4 x y4 h hl4 hr4
      revert h; revert x; intro s13 h
      unfold strings_IndexRune_b4 at h
      exact W
    ·exact W
instance strings_IndexRune_ok_i (E : Pm.Env) [LaidM E] (a0 : Bytes) (a1 : Int) : Ok E (strings_IndexRune a0 a1) (fun r => FnR E Tryz.prog 222 [ss a0, AV.int .i32 a1] (ii r) false) := ⟨strings_IndexRune_ok E a0 a1⟩
theorem strings_ContainsRune_ok (E : Pm.Env) [LaidM E] (a0 : Bytes) (a1 : Int) (r : Bool) (h : strings_ContainsRune a0 a1 = some r) : FnR E Tryz.prog 213 [ss a0, AV.int .i32 a1] (bb r) false := by
 refine FnR.of_ev (T := T) (rows := []) tOk mixed Tryz.func213 rfl (by kernel_rfl) (by kernel_rfl) rfl fun hwf => ?_
 unfold strings_ContainsRune at h
 exact W
instance strings_ContainsRune_ok_i (E : Pm.Env) [LaidM E] (a0 : Bytes) (a1 : Int) : Ok E (strings_ContainsRune a0 a1) (fun r => FnR E Tryz.prog 213 [ss a0, AV.int .i32 a1] (bb r) false) := ⟨strings_ContainsRune_ok E a0 a1⟩
theorem strings_trimRightUnicode_ok (E : Pm.Env) [LaidM E] (a0 : Bytes) (a1 : Bytes) (r : Bytes) (h : strings_trimRightUnicode a0 a1 = some r) : FnR E Tryz.prog 200 [ss a0, ss a1] (ss r) false := by
 refine FnR.of_ev (T := T) (rows := []) tOk mixed Tryz.func200 rfl (by kernel_rfl) (by kernel_rfl) rfl fun hwf => ?_
 unfold strings_trimRightUnicode at h
 refine sj <| sn <| bind_elim h fun j1 hj1 h => ?_
 refine SeqJ.join (St.of [⟨0, ss j1, none⟩] [] []) ?_ ?_
 ·clear h; have h := hj1; clear hj1
  refine LoopE.img (fun x : Bytes => St.of [⟨0, ss x, none⟩, ⟨1, ss a1, none⟩] [] []) (strings_trimRightUnicode_b1 a1) a0 h ?_ ?_
  ·exact gT []
  intro n1 x y1 h hl1 hr1
  revert h; revert x; intro s2 h
  unfold strings_trimRightUnicode_b1 at h
  exact W
 ·clear hj1
  exact W
instance strings_trimRightUnicode_ok_i (E : Pm.Env) [LaidM E] (a0 : Bytes) (a1 : Bytes) : Ok E (strings_trimRightUnicode a0 a1) (fun r => FnR E Tryz.prog 200 [ss a0, ss a1] (ss r) false) := ⟨strings_trimRightUnicode_ok E a0 a1⟩
theorem strings_trimLeftUnicode_ok (E : Pm.Env) [LaidM E] (a0 : Bytes) (a1 : Bytes) (r : Bytes) (h : strings_trimLeftUnicode a0 a1 = some r) : FnR E Tryz.prog 199 [ss a0, ss a1] (ss r) false := by
 refine FnR.of_ev (T := T) (rows := []) tOk mixed Tryz.func199 rfl (by kernel_rfl) (by kernel_rfl) rfl fun hwf => ?_
 unfold strings_trimLeftUnicode at h
 refine sj <| sn <| bind_elim h fun j1 hj1 h => ?_
 refine SeqJ.join (St.of [⟨0, ss j1, none⟩] [] []) ?_ ?_
 ·clear h; have h := hj1; clear hj1
  refine LoopE.img (fun x : Bytes => St.of [⟨0, ss x, none⟩, ⟨1, ss a1, none⟩] [] []) (strings_trimLeftUnicode_b1 a1) a0 h ?_ ?_
  ·exact gT []
  intro n1 x y1 h hl1 hr1
  revert h; revert x; intro s2 h
  unfold strings_trimLeftUnicode_b1 at h
  exact W
 ·clear hj1
  exact W
instance strings_trimLeftUnicode_ok_i (E : Pm.Env) [LaidM E] (a0 : Bytes) (a1 : Bytes) : Ok E (strings_trimLeftUnicode a0 a1) (fun r => FnR E Tryz.prog 199 [ss a0, ss a1] (ss r) false) := ⟨strings_trimLeftUnicode_ok E a0 a1⟩
theorem strings_Trim_ok (E : Pm.Env) [LaidM E] (a0 : Bytes) (a1 : Bytes) (r : Bytes) (h : strings_Trim a0 a1 = some r) : FnR E Tryz.prog 171 [ss a0, ss a1] (ss r) false := by
 refine FnR.of_ev (T := T) (rows := []) tOk mixed Tryz.func171 rfl (by kernel_rfl) (by kernel_rfl) rfl fun hwf => ?_
 unfold strings_Trim at h
 refine sj <| sn <| sj <| sj <| ai id <| ai (fun hg => (and_r hg)) <| sn ?_
 refine Br.of h (fun ht h => ?_) fun ht h => ?_
 ·exact W
 ·refine sn <| sj <| sj <| NormE.same <| bind_elim h fun x1 hx1 h => ai id ?_
  refine xi x1 (ai (fun hg => gidx_some hx1 hg) ?_)
  refine ai id <| ai (fun hg => (and_r hg)) <| sn ?_
  refine Br.of h (fun ht h => ?_) fun ht h => ?_
  ·exact W
  ·refine sn <| sj <| sj <| bind_elim h fun x6 hx6 h => CallH.data _ false rfl (strings_makeASCIISet_ok E a1 x6 hx6) <| ai rfl <| chk_elim h fun q7 h => ?_
   refine ai ⟨rfl, arr_len _ q7, rfl, arr_room rfl⟩ (xi (x6.1.map AV.bool) (ai (fun _ => arr_store _ _ q7 rfl) ?_))
   refine sn <| sj <| chk_elim h fun hc1 h => ?_
   refine SeqN.via (St.of [⟨0, ss a0, none⟩, ⟨1, ss a1, none⟩, ⟨5, AV.iptr (x6.1.map AV.bool), none⟩, ⟨34, bb x6.2, none⟩] [] []) ?_ ?_
   ·refine Gho.trans (Gho.fz [0] [(5, AV.iptr (x6.1.map AV.bool))] ⟨Frz.ptr0 rfl (puB_map _ (fun _ => rfl) _) (by rw [List.length_map]; exact hc1), trivial⟩) ?_
    exact W
   exact W
instance strings_Trim_ok_i (E : Pm.Env) [LaidM E] (a0 : Bytes) (a1 : Bytes) : Ok E (strings_Trim a0 a1) (fun r => FnR E Tryz.prog 171 [ss a0, ss a1] (ss r) false) := ⟨strings_Trim_ok E a0 a1⟩
theorem text_Trim_ok (E : Pm.Env) [LaidM E] (a0 : Bytes) (r : Bytes) (h : text_Trim a0 = some r) : FnR E Tryz.prog 141 [ss a0] (ss r) false := by
 refine FnR.of_ev (T := T) (rows := []) tOk mixed Tryz.func141 rfl (by kernel_rfl) (by kernel_rfl) rfl fun hwf => ?_
 unfold text_Trim at h
 exact W
instance text_Trim_ok_i (E : Pm.Env) [LaidM E] (a0 : Bytes) : Ok E (text_Trim a0) (fun r => FnR E Tryz.prog 141 [ss a0] (ss r) false) := ⟨text_Trim_ok E a0⟩
theorem slices_IndexFunc__api_Field_api_Field_ok (E : Pm.Env) [LaidM E] (a0 : (List S_Field)) (a1 : FuncId) (a1c : List AV) (a1i : S_Field → Option Bool) (a1h : ∀ (x0 : S_Field) (r : Bool), a1i x0 = some r → FnR E Tryz.prog a1 ([S_Field.av x0] ++ a1c) (bb r) false) (a1p : a1c.all AV.puB = true) (r : Int) (h : slices_IndexFunc__api_Field_api_Field a0 a1i = some r) : FnR E Tryz.prog 149 [AV.list 2 (a0.map S_Field.av), AV.fn a1 [] a1c] (ii r) false := by
 refine FnR.of_ev (T := T) (rows := []) tOk mixed Tryz.func149 rfl (by kernel_rfl) (by kernel_rfl) rfl fun hwf => ?_
 unfold slices_IndexFunc__api_Field_api_Field at h
 refine sj <| sn <| sj <| sj <| NormE.to (ii (a0.length : Int)) (fun _ => len_list S_Field.av a0) <| sn ?_
 refine LoopE.img (fun x : Int => St.of [⟨0, AV.list 2 (a0.map S_Field.av), none⟩, ⟨1, AV.fn a1 [] a1c, none⟩, ⟨7, ii (a0.length : Int), none⟩, ⟨8, ii x, none⟩] [] []) (slices_IndexFunc__api_Field_api_Field_b1 a0 a1i) (0 : Int) h ?_ ?_
 ·exact gT []
 intro n1 x y1 h hl1 hr1
 revert h; revert x; intro s1 h
 unfold slices_IndexFunc__api_Field_api_Field_b1 at h
 refine sj <| sn <| sj ?_
 refine Br.of h (fun ht h => ?_) fun ht h => ?_
 ·refine sn <| sj <| sj <| sn <| sj <| bind_elim h fun x2 hx2 h => ?_
  refine ai rfl (xi (S_Field.av x2) (ai (fun hg => idx_map _ hx2) ?_))
  refine ai (lb rfl) <| NormE.to (S_Field.av x2) (fun _ => rfl) <| bind_elim h fun x3 hx3 h => CallH.data _ false (puD_app rfl (puD_of a1p)) (a1h x2 x3 hx3) ?_
  exact W
 ·exact W
theorem slices_ContainsFunc__api_Field_api_Field_ok (E : Pm.Env) [LaidM E] (a0 : (List S_Field)) (a1 : FuncId) (a1c : List AV) (a1i : S_Field → Option Bool) (a1h : ∀ (x0 : S_Field) (r : Bool), a1i x0 = some r → FnR E Tryz.prog a1 ([S_Field.av x0] ++ a1c) (bb r) false) (a1p : a1c.all AV.puB = true) (r : Bool) (h : slices_ContainsFunc__api_Field_api_Field a0 a1i = some r) : FnR E Tryz.prog 113 [AV.list 2 (a0.map S_Field.av), AV.fn a1 [] a1c] (bb r) false := by
 refine FnR.of_ev (T := T) (rows := []) tOk mixed Tryz.func113 rfl (by kernel_rfl) (by kernel_rfl) rfl fun hwf => ?_
 unfold slices_ContainsFunc__api_Field_api_Field at h
 refine sj <| sn <| sj <| bind_elim h fun x1 hx1 h => CallH.data _ false (and_tt' rfl (and_tt' (puD_fn a1p) rfl)) (slices_IndexFunc__api_Field_api_Field_ok E a0 a1 a1c a1i a1h a1p x1 hx1) ?_
 exact W
theorem text_tokens_ok (E : Pm.Env) [LaidM E] (r : (List Bool)) (h : text_tokens = some r) : FnR E Tryz.prog 176 [] (AV.iptr (r.map AV.bool)) false := by
 refine FnR.of_ev (T := T) (rows := []) tOk mixed Tryz.func176 rfl (by kernel_rfl) (by kernel_rfl) rfl fun hwf => ?_
 unfold text_tokens at h
 refine sj <| sn <| sj <| ai rfl <| sn <| bind_elim h fun j1 hj1 h => ?_
 refine SeqJ.join (St.of [⟨1, AV.ptr 0 0, none⟩] [.cells 237 (j1.map AV.bool) []] []) ?_ ?_
 ·clear h; have h := hj1; clear hj1
  refine sj <| sn ?_
  refine LoopE.img (fun x : (Int × (List Bool)) => St.of [⟨1, AV.ptr 0 0, none⟩, ⟨4, ii x.1, none⟩] [.cells 237 (x.2.map AV.bool) []] []) text_tokens_b1 ((0 : Int), (List.replicate 256 false)) h ?_ ?_
  ·exact gT []
  intro n1 x y1 h hl1 hr1
  obtain ⟨s2, s3⟩ := x
  unfold text_tokens_b1 at h
  dsimp only at h
  exact W
 ·clear hj1
  refine sj <| sn <| chk_elim h fun hc1 h => ?_
  replace h := oi h
  refine RetE.frz ?_
  exact xi (AV.iptr (j1.map AV.bool)) (ai (Frz.ptr0 rfl (puB_map _ (fun _ => rfl) _) (by rw [List.length_map]; exact hc1)) (ai (congrArg (fun r : (List Bool) => AV.iptr (r.map AV.bool)) h) rfl))
instance text_tokens_ok_i (E : Pm.Env) [LaidM E] : Ok E text_tokens (fun r => FnR E Tryz.prog 176 [] (AV.iptr (r.map AV.bool)) false) := ⟨text_tokens_ok E⟩
theorem text_all_ok (E : Pm.Env) [LaidM E] (a0 : Bytes) (a1 : (List Bool)) (a2 : FuncId) (a2c : List AV) (a2i : (List Bool) → Int → Option Bool) (a2h : ∀ (x0 : (List Bool)) (x1 : Int) (r : Bool), a2i x0 x1 = some r → FnR E Tryz.prog a2 ([AV.iptr (x0.map AV.bool), AV.int .u8 x1] ++ a2c) (bb r) false) (a2p : a2c.all AV.puB = true) (r : Bool) (h : text_all a0 a1 a2i = some r) : FnR E Tryz.prog 175 [ss a0, AV.iptr (a1.map AV.bool), AV.fn a2 [] a2c] (bb r) false := by
 refine FnR.of_ev (T := T) (rows := []) tOk mixed Tryz.func175 rfl (by kernel_rfl) (by kernel_rfl) rfl fun hwf => ?_
 unfold text_all at h
 refine sj <| sn <| sj <| sj <| NormE.same <| sn ?_
 refine LoopE.img (fun x : Int => St.of [⟨0, ss a0, none⟩, ⟨1, AV.iptr (a1.map AV.bool), none⟩, ⟨2, AV.fn a2 [] a2c, none⟩, ⟨9, ii (a0.length : Int), none⟩, ⟨10, ii x, none⟩] [] []) (text_all_b1 a0 a1 a2i) (0 : Int) h ?_ ?_
 ·exact gT []
 intro n1 x y1 h hl1 hr1
 revert h; revert x; intro s1 h
 unfold text_all_b1 at h
 refine sj <| sn <| sj ?_
 refine Br.of h (fun ht h => ?_) fun ht h => ?_
 ·refine sn <| sj <| sj <| sn <| sj <| bind_elim h fun x2 hx2 h => ?_
  refine xi x2 (ai (fun hg => idx_some hx2) ?_)
  refine bind_elim h fun x3 hx3 h => CallH.data _ false (puD_app rfl (puD_of a2p)) (a2h a1 (x2.toNat : Int) x3 hx3) ?_
  exact W
 ·exact W
theorem text_set_has_ok (E : Pm.Env) [LaidM E] (a0 : (List Bool)) (a1 : Int) (r : Bool) (h : text_set_has a0 a1 = some r) : FnR E Tryz.prog 177 [AV.iptr (a0.map AV.bool), AV.int .u8 a1] (bb r) false := by
 refine FnR.of_ev (T := T) (rows := []) tOk mixed Tryz.func177 rfl (by kernel_rfl) (by kernel_rfl) rfl fun hwf => ?_
 unfold text_set_has at h
 exact W
instance text_set_has_ok_i (E : Pm.Env) [LaidM E] (a0 : (List Bool)) (a1 : Int) : Ok E (text_set_has a0 a1) (fun r => FnR E Tryz.prog 177 [AV.iptr (a0.map AV.bool), AV.int .u8 a1] (bb r) false) := ⟨text_set_has_ok E a0 a1⟩
theorem text_Token_ok (E : Pm.Env) [LaidM E] (a0 : Bytes) (r : Bool) (h : text_Token a0 = some r) : FnR E Tryz.prog 143 [ss a0] (bb r) false := by
 refine FnR.of_ev (T := T) (rows := []) tOk mixed Tryz.func143 rfl (by kernel_rfl) (by kernel_rfl) rfl fun hwf => ?_
 unfold text_Token at h
 refine sj <| sn <| sj <| bind_elim h fun x1 hx1 h => ai rfl ?_
 refine CallF.mk _ false (fun hg => text_tokens_ok E  x1 (gcall_some hx1 hg)) (ai rfl ?_)
 refine bind_elim h fun x2 hx2 h => ai id <| ai id <| ai rfl ?_
 refine CallF.mk _ false (fun hg => text_all_ok E a0 x1 177 [] (fun x0 x1 => text_set_has x0 x1) (fun x0 x1 r h => text_set_has_ok E x0 x1 r h) rfl x2 (gcall_some hx2 hg)) (ai rfl ?_)
 refine ai (fun hg => (and_r hg)) <| sn ?_
 replace h := oi h
 refine RetE.plain ?_
 subst h; exact ai rfl (ai rfl rfl)
instance text_Token_ok_i (E : Pm.Env) [LaidM E] (a0 : Bytes) : Ok E (text_Token a0) (fun r => FnR E Tryz.prog 143 [ss a0] (bb r) false) := ⟨text_Token_ok E a0⟩
theorem slices_IndexFunc__byte_byte_ok (E : Pm.Env) [LaidM E] (a0 : (List UInt8)) (a1 : FuncId) (a1c : List AV) (a1i : Int → Option Bool) (a1h : ∀ (x0 : Int) (r : Bool), a1i x0 = some r → FnR E Tryz.prog a1 ([AV.int .u8 x0] ++ a1c) (bb r) false) (a1p : a1c.all AV.puB = true) (r : Int) (h : slices_IndexFunc__byte_byte a0 a1i = some r) : FnR E Tryz.prog 179 [AV.list 1 (a0.map byteAV), AV.fn a1 [] a1c] (ii r) false := by
 refine FnR.of_ev (T := T) (rows := []) tOk mixed Tryz.func179 rfl (by kernel_rfl) (by kernel_rfl) rfl fun hwf => ?_
 unfold slices_IndexFunc__byte_byte at h
 refine sj <| sn <| sj <| sj <| NormE.to (ii (a0.length : Int)) (fun _ => len_list byteAV a0) <| sn ?_
 refine LoopE.img (fun x : Int => St.of [⟨0, AV.list 1 (a0.map byteAV), none⟩, ⟨1, AV.fn a1 [] a1c, none⟩, ⟨7, ii (a0.length : Int), none⟩, ⟨8, ii x, none⟩] [] []) (slices_IndexFunc__byte_byte_b1 a0 a1i) (0 : Int) h ?_ ?_
 ·exact gT []
 intro n1 x y1 h hl1 hr1
 revert h; revert x; intro s1 h
 unfold slices_IndexFunc__byte_byte_b1 at h
 refine sj <| sn <| sj ?_
 refine Br.of h (fun ht h => ?_) fun ht h => ?_
 ·refine sn <| sj <| sj <| sn <| sj <| bind_elim h fun x2 hx2 h => ?_
  refine ai rfl (xi (byteAV x2) (ai (fun hg => idx_map _ hx2) ?_))
  refine bind_elim h fun x3 hx3 h => CallH.data _ false (puD_app rfl (puD_of a1p)) (a1h (x2.toNat : Int) x3 hx3) ?_
  exact W
 ·exact W
theorem slices_ContainsFunc__byte_byte_ok (E : Pm.Env) [LaidM E] (a0 : (List UInt8)) (a1 : FuncId) (a1c : List AV) (a1i : Int → Option Bool) (a1h : ∀ (x0 : Int) (r : Bool), a1i x0 = some r → FnR E Tryz.prog a1 ([AV.int .u8 x0] ++ a1c) (bb r) false) (a1p : a1c.all AV.puB = true) (r : Bool) (h : slices_ContainsFunc__byte_byte a0 a1i = some r) : FnR E Tryz.prog 146 [AV.list 1 (a0.map byteAV), AV.fn a1 [] a1c] (bb r) false := by
 refine FnR.of_ev (T := T) (rows := []) tOk mixed Tryz.func146 rfl (by kernel_rfl) (by kernel_rfl) rfl fun hwf => ?_
 unfold slices_ContainsFunc__byte_byte at h
 refine sj <| sn <| sj <| bind_elim h fun x1 hx1 h => CallH.data _ false (and_tt' rfl (and_tt' (puD_fn a1p) rfl)) (slices_IndexFunc__byte_byte_ok E a0 a1 a1c a1i a1h a1p x1 hx1) ?_
 exact W
theorem table_may_1_ok (E : Pm.Env) [LaidM E] (a0 : Int) (r : Bool) (h : table_may_1 a0 = some r) : FnR E Tryz.prog 150 [AV.int .u8 a0] (bb r) false := by
 refine FnR.of_ev (T := T) (rows := []) tOk mixed Tryz.func150 rfl (by kernel_rfl) (by kernel_rfl) rfl fun hwf => ?_
 unfold table_may_1 at h
 exact W
instance table_may_1_ok_i (E : Pm.Env) [LaidM E] (a0 : Int) : Ok E (table_may_1 a0) (fun r => FnR E Tryz.prog 150 [AV.int .u8 a0] (bb r) false) := ⟨table_may_1_ok E a0⟩
theorem table_may_ok (E : Pm.Env) [LaidM E] (a0 : S_Field) (r : Bool) (h : table_may a0 = some r) : FnR E Tryz.prog 115 [S_Field.av a0] (bb r) false := by
 refine FnR.of_ev (T := T) (rows := []) tOk mixed Tryz.func115 rfl (by kernel_rfl) (by kernel_rfl) rfl fun hwf => ?_
 unfold table_may at h
 refine sj <| ai rfl ?_
 refine xi [] (xi 0 (ai ⟨rfl, rfl⟩ ?_))
 refine sn <| sj <| sn <| sj <| Or.inl <| bind_elim h fun x1 hx1 h => CallH.data _ false rfl (text_Token_ok E a0.Name x1 hx1) <| ai id <| bind_elim h fun x2 hx2 h => ai id <| ai rfl ?_
 refine CallF.mk _ false (fun hg => text_Trim_ok E a0.Value x2 (gcall_some hx2 hg)) (ai rfl ?_)
 refine ai id <| ai id <| ai id <| ai (fun hg => (and_r hg)) <| ai id <| ai id <| NormE.same <| ai id <| ai (fun hg => (and_r hg)) <| ai id <| ai id <| ai ⟨rfl, rfl⟩ <| bind_elim h fun x3 hx3 h => ai id <| ai id <| ai rfl ?_
 refine CallF.mk _ false (fun hg => slices_ContainsFunc__byte_byte_ok E a0.Value 150 [] (fun x0 => table_may_1 x0) (fun x0 r h => table_may_1_ok E x0 r h) rfl x3 (gcall_some hx3 hg)) (ai rfl ?_)
 refine ai id <| ai (fun hg => (and_r hg)) <| ai (by kernel_rfl) <| sn ?_
 replace h := oi h
 refine RetE.plain ?_
 subst h; exact ai rfl (ai rfl rfl)
instance table_may_ok_i (E : Pm.Env) [LaidM E] (a0 : S_Field) : Ok E (table_may a0) (fun r => FnR E Tryz.prog 115 [S_Field.av a0] (bb r) false) := ⟨table_may_ok E a0⟩
theorem table_Right_1_ok (E : Pm.Env) [LaidM E] (a0 : S_Field) (r : Bool) (h : table_Right_1 a0 = some r) : FnR E Tryz.prog 114 [S_Field.av a0] (bb r) false := by
 refine FnR.of_ev (T := T) (rows := []) tOk mixed Tryz.func114 rfl (by kernel_rfl) (by kernel_rfl) rfl fun hwf => ?_
 unfold table_Right_1 at h
 exact W
instance table_Right_1_ok_i (E : Pm.Env) [LaidM E] (a0 : S_Field) : Ok E (table_Right_1 a0) (fun r => FnR E Tryz.prog 114 [S_Field.av a0] (bb r) false) := ⟨table_Right_1_ok E a0⟩
theorem table_Right_ok (E : Pm.Env) [LaidM E] (a0 : (List S_Field)) (r : Bool) (h : table_Right a0 = some r) : FnR E Tryz.prog 66 [AV.list 2 (a0.map S_Field.av)] (bb r) false := by
 refine FnR.of_ev (T := T) (rows := []) tOk mixed Tryz.func66 rfl (by kernel_rfl) (by kernel_rfl) rfl fun hwf => ?_
 unfold table_Right at h
 refine sj <| sn <| sj <| NormE.to (ii (a0.length : Int)) (fun _ => len_list S_Field.av a0) <| bind_elim h fun x1 hx1 h => ai id <| ai rfl ?_
 refine CallF.mk _ false (fun hg => slices_ContainsFunc__api_Field_api_Field_ok E a0 114 [] (fun x0 => table_Right_1 x0) (fun x0 r h => table_Right_1_ok E x0 r h) rfl x1 (gcall_some hx1 hg)) (ai rfl ?_)
 refine ai id <| ai (fun hg => (and_r hg)) <| sn ?_
 replace h := oi h
 refine RetE.plain ?_
 subst h; exact ai rfl (ai rfl rfl)
instance table_Right_ok_i (E : Pm.Env) [LaidM E] (a0 : (List S_Field)) : Ok E (table_Right a0) (fun r => FnR E Tryz.prog 66 [AV.list 2 (a0.map S_Field.av)] (bb r) false) := ⟨table_Right_ok E a0⟩
theorem slices_Clip__api_Field_api_Field_ok (E : Pm.Env) [LaidM E] (a0 : (List S_Field)) (r : (List S_Field)) (h : slices_Clip__api_Field_api_Field a0 = some r) : FnR E Tryz.prog 154 [AV.list 2 (a0.map S_Field.av)] (AV.list 2 (r.map S_Field.av)) true := by
 refine FnR.of_ev (T := T) (rows := []) tOk mixed Tryz.func154 rfl (by kernel_rfl) (by kernel_rfl) rfl fun hwf => ?_
 unfold slices_Clip__api_Field_api_Field at h
 refine sj <| sn <| sj <| NormE.to (ii (a0.length : Int)) (fun _ => len_list S_Field.av a0) <| NormE.to (ii (a0.length : Int)) (fun _ => len_list S_Field.av a0) <| bind_elim h fun x1 hx1 h => ?_
 have qx1 := (slc_some hx1).1
 have hx1e := (slc_some hx1).2
 refine ai ⟨slc_cond S_Field.av qx1, rfl, rfl⟩ <| NormE.to (AV.list 2 (x1.map S_Field.av)) (fun _ => (slc_list 2 S_Field.av _ _ _).trans (congrArg (fun y => AV.list 2 (List.map S_Field.av y)) hx1e.symm)) <| sn ?_
 replace h := oi h
 exact RetE.own 2 1 rfl rfl rfl rfl (ai (congrArg (fun r : (List S_Field) => AV.list 2 (r.map S_Field.av)) h) rfl)
instance slices_Clip__api_Field_api_Field_ok_i (E : Pm.Env) [LaidM E] (a0 : (List S_Field)) : Ok E (slices_Clip__api_Field_api_Field a0) (fun r => FnR E Tryz.prog 154 [AV.list 2 (a0.map S_Field.av)] (AV.list 2 (r.map S_Field.av)) true) := ⟨slices_Clip__api_Field_api_Field_ok E a0⟩
theorem table_Add_ok (E : Pm.Env) [LaidM E] (a0 : (List S_Field)) (a1 : Bytes) (a2 : Bytes) (r : ((List S_Field) × Int)) (h : table_Add a0 a1 a2 = some r) : FnR E Tryz.prog 118 [AV.list 2 (a0.map S_Field.av), ss a1, ss a2] (AV.tup [AV.list 2 (r.1.map S_Field.av), ii r.2]) false := by
 refine FnR.of_ev (T := T) (rows := []) tOk mixed Tryz.func118 rfl (by kernel_rfl) (by kernel_rfl) rfl fun hwf => ?_
 unfold table_Add at h
 exact W
instance table_Add_ok_i (E : Pm.Env) [LaidM E] (a0 : (List S_Field)) (a1 : Bytes) (a2 : Bytes) : Ok E (table_Add a0 a1 a2) (fun r => FnR E Tryz.prog 118 [AV.list 2 (a0.map S_Field.av), ss a1, ss a2] (AV.tup [AV.list 2 (r.1.map S_Field.av), ii r.2]) false) := ⟨table_Add_ok E a0 a1 a2⟩
theorem head_lines_ok (E : Pm.Env) [LaidM E] (a0 : Bytes) (r : Bytes) (h : head_lines a0 = some r) : FnR E Tryz.prog 134 [ss a0] (AV.fn 164 [] [AV.iptr [ss r]]) false := by
 refine FnR.of_ev (T := T) (rows := []) tOk mixed Tryz.func134 rfl (by kernel_rfl) (by kernel_rfl) rfl fun hwf => ?_
 unfold head_lines at h
 refine sj <| ai rfl ?_
 refine xi [] (xi 0 (ai ⟨rfl, rfl⟩ ?_))
 refine SeqN.via (St.of [⟨1, AV.iptr [ss a0], none⟩] [] []) ?_ ?_
 ·refine Gho.trans (Gho.fz [0] [(1, AV.iptr [ss a0])] ⟨Frz.ptrD rfl rfl (lb rfl), trivial⟩) ?_
  exact W
 exact W
instance head_lines_ok_i (E : Pm.Env) [LaidM E] (a0 : Bytes) : Ok E (head_lines a0) (fun r => FnR E Tryz.prog 134 [ss a0] (AV.fn 164 [] [AV.iptr [ss r]]) false) := ⟨head_lines_ok E a0⟩
end Go.Proofs.YtommkfooolabhaaGreatDoor
