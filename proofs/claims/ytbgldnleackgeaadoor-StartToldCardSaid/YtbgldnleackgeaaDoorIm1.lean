/-
  The plain images of the functions, written by a program of mine (gen.py) off the translation.
-/
import Derived.Test.YtbgldnleackgeaaDoorGi1
namespace Go.Proofs.YtbgldnleackgeaaDoor
open Go Go.Pm
set_option linter.unusedVariables false

structure S_Start where
  Method : Bytes
  Target : Bytes
  Code : Int
  Reason : Bytes
  Minor : Int
instance : Inhabited S_Start := ⟨⟨default, default, default, default, default⟩⟩
def S_Start.cells (x : S_Start) : List AV := [AV.str (x.Method), AV.str (x.Target), AV.int .i64 (x.Code), AV.str (x.Reason), AV.int .i64 (x.Minor)]
def S_Start.av (x : S_Start) : AV := .agg (S_Start.cells x)

structure S_Field where
  Name : Bytes
  Value : Bytes
instance : Inhabited S_Field := ⟨⟨default, default⟩⟩
def S_Field.cells (x : S_Field) : List AV := [AV.str (x.Name), AV.str (x.Value)]
def S_Field.av (x : S_Field) : AV := .agg (S_Field.cells x)

structure S_Body where
  Kind : Int
  Size : Int
instance : Inhabited S_Body := ⟨⟨default, default⟩⟩
def S_Body.cells (x : S_Body) : List AV := [AV.int .i64 (x.Kind), AV.int .i64 (x.Size)]
def S_Body.av (x : S_Body) : AV := .agg (S_Body.cells x)

noncomputable def intarsialaw09_small (a0 : S_Start) : Option S_Start :=
  (slc (a0.Method) 0 (imin ((a0.Method).length : Int) (40 : Int))).bind fun x1 =>
  (slc (a0.Target) 0 (imin ((a0.Target).length : Int) (520 : Int))).bind fun x2 =>
  (slc (a0.Reason) 0 (imin ((a0.Reason).length : Int) (120 : Int))).bind fun x3 =>
  some (S_Start.mk x1 x2 (a0.Code) x3 (a0.Minor))

noncomputable def intarsialaw09_few_b1 (x1 : (List S_Field)) (x : (Int × (List S_Field))) : Option ((Int × (List S_Field)) ⊕ (List S_Field)) :=
  match x with
  | (s4, s5) =>
    bif (decide (s4 < ((x1.length : Nat) : Int))) then
      chk (0 ≤ s4 ∧ s4 < (x1.length : Int)) <|
      (idx s5 s4).bind fun x7 =>
      (slc (x7.Name) 0 (imin ((x7.Name).length : Int) (60 : Int))).bind fun x8 =>
      (slc (x7.Value) 0 (imin ((x7.Value).length : Int) (1010 : Int))).bind fun x9 =>
      chk (0 ≤ s4 ∧ s4 < (x1.length : Int)) <|
      (seti s5 s4 (S_Field.mk x8 x9)).bind fun x11 =>
      some (.inl ((IntKind.i64.wrap (s4 + (1 : Int))), x11))
    else
      some (.inr s5)
noncomputable def intarsialaw09_few (a0 : (List S_Field)) : Option (List S_Field) :=
  (slc a0 0 (imin (a0.length : Int) (45 : Int))).bind fun x1 =>
  chk (x1.length ≤ maxLen ∧ x1.length * 32 ≤ 140737488355328) <|
  (loopO (intarsialaw09_few_b1 x1) ((0 : Int), x1) : Option (List S_Field)).bind fun j3 =>
  chk (x1.length ≤ j3.length) (some (j3.take (x1.length)))

noncomputable def stringslite_IndexByte (a0 : Bytes) (a1 : Int) : Option Int :=
  (bytealg_IndexByteString a0 a1).bind fun x1 =>
  some x1

noncomputable def strings_IndexByte (a0 : Bytes) (a1 : Int) : Option Int :=
  (stringslite_IndexByte a0 a1).bind fun x1 =>
  some x1

noncomputable def text_tokens_b1 (x : (Int × (List Bool))) : Option ((Int × (List Bool)) ⊕ (List Bool)) :=
  match x with
  | (s2, s3) =>
    bif (decide (s2 < (256 : Int))) then
      (gcall (!(bif (bif (bif (decide ((IntKind.u8.wrap s2) ≥ (97 : Int))) then (decide ((IntKind.u8.wrap s2) ≤ (122 : Int))) else false) then true else (bif (decide ((IntKind.u8.wrap s2) ≥ (65 : Int))) then (decide ((IntKind.u8.wrap s2) ≤ (90 : Int))) else false)) then true else (bif (decide ((IntKind.u8.wrap s2) ≥ (48 : Int))) then (decide ((IntKind.u8.wrap s2) ≤ (57 : Int))) else false))) (strings_IndexByte ([33, 35, 36, 37, 38, 39, 42, 43, 45, 46, 94, 95, 124, 126, 96] : Bytes) (IntKind.u8.wrap s2))).bind fun x4 =>
      chk (0 ≤ s2 ∧ s2 < 256) <|
      (seti s3 s2 (bif (bif (bif (bif (decide ((IntKind.u8.wrap s2) ≥ (97 : Int))) then (decide ((IntKind.u8.wrap s2) ≤ (122 : Int))) else false) then true else (bif (decide ((IntKind.u8.wrap s2) ≥ (65 : Int))) then (decide ((IntKind.u8.wrap s2) ≤ (90 : Int))) else false)) then true else (bif (decide ((IntKind.u8.wrap s2) ≥ (48 : Int))) then (decide ((IntKind.u8.wrap s2) ≤ (57 : Int))) else false)) then true else (decide (x4 ≥ (0 : Int))))).bind fun x6 =>
      some (.inl ((IntKind.i64.wrap (s2 + (1 : Int))), x6))
    else
      some (.inr s3)
noncomputable def text_tokens : Option (List Bool) :=
  (loopO (text_tokens_b1) ((0 : Int), (List.replicate 256 false)) : Option (List Bool)).bind fun j1 =>
  chk (0 < (j1).length) (some j1)

noncomputable def text_all_b1 (a0 : Bytes) (a1 : (List Bool)) (a2i : (List Bool) → Int → Option Bool) (s1 : Int) : Option (Int ⊕ Bool) :=
  bif (decide (s1 < (a0.length : Int))) then
    (idx a0 s1).bind fun x2 =>
    (a2i a1 (x2.toNat : Int)).bind fun x3 =>
    bif (!x3) then
      some (.inr false)
    else
      some (.inl (IntKind.i64.wrap (s1 + (1 : Int))))
  else
    some (.inr true)
noncomputable def text_all (a0 : Bytes) (a1 : (List Bool)) (a2i : (List Bool) → Int → Option Bool) : Option Bool :=
  loopO (text_all_b1 a0 a1 a2i) (0 : Int)

noncomputable def text_set_has (a0 : (List Bool)) (a1 : Int) : Option Bool :=
  chk (0 ≤ a1 ∧ a1 < 256) <|
  (idx a0 a1).bind fun x2 =>
  some x2

noncomputable def text_Token (a0 : Bytes) : Option Bool :=
  (gcall (!(a0 == ([] : Bytes))) (text_tokens)).bind fun x1 =>
  (gcall (!(a0 == ([] : Bytes))) (text_all a0 x1 (fun x0 x1 => text_set_has x0 x1))).bind fun x2 =>
  some (bif (!(a0 == ([] : Bytes))) then x2 else false)

noncomputable def stringslite_HasPrefix (a0 : Bytes) (a1 : Bytes) : Option Bool :=
  (gslc (decide ((a0.length : Int) ≥ (a1.length : Int))) a0 0 (a1.length : Int)).bind fun x1 =>
  some (bif (decide ((a0.length : Int) ≥ (a1.length : Int))) then (x1 == a1) else false)

noncomputable def strings_HasPrefix (a0 : Bytes) (a1 : Bytes) : Option Bool :=
  (stringslite_HasPrefix a0 a1).bind fun x1 =>
  some x1

noncomputable def slices_IndexFunc__byte_byte_b1 (a0 : (List UInt8)) (a1i : Int → Option Bool) (s1 : Int) : Option (Int ⊕ Int) :=
  bif (decide (s1 < (a0.length : Int))) then
    (idx a0 s1).bind fun x2 =>
    (a1i (x2.toNat : Int)).bind fun x3 =>
    bif x3 then
      some (.inr s1)
    else
      some (.inl (IntKind.i64.wrap (s1 + (1 : Int))))
  else
    some (.inr (-1 : Int))
noncomputable def slices_IndexFunc__byte_byte (a0 : (List UInt8)) (a1i : Int → Option Bool) : Option Int :=
  loopO (slices_IndexFunc__byte_byte_b1 a0 a1i) (0 : Int)

noncomputable def slices_ContainsFunc__byte_byte (a0 : (List UInt8)) (a1i : Int → Option Bool) : Option Bool :=
  (slices_IndexFunc__byte_byte a0 (a1i)).bind fun x1 =>
  some (decide (x1 ≥ (0 : Int)))

noncomputable def start_target_1 (a0 : Int) : Option Bool :=
  (gcall (!(bif (decide (a0 ≤ (32 : Int))) then true else (decide (a0 > (126 : Int))))) (strings_IndexByte ([34, 35, 60, 62, 92, 94, 123, 124, 125, 96] : Bytes) a0)).bind fun x1 =>
  some (bif (bif (decide (a0 ≤ (32 : Int))) then true else (decide (a0 > (126 : Int)))) then true else (decide (x1 ≥ (0 : Int))))

noncomputable def start_target (a0 : Bytes) : Option Bool :=
  bif (a0 == ([42] : Bytes)) then
    some true
  else
    (strings_HasPrefix a0 ([47] : Bytes)).bind fun x1 =>
    (gcall (!x1) (strings_HasPrefix a0 ([104, 116, 116, 112, 58, 47, 47] : Bytes))).bind fun x2 =>
    (gcall (bif (bif x1 then true else x2) then (decide ((a0.length : Int) ≤ (500 : Int))) else false) (slices_ContainsFunc__byte_byte a0 (fun x0 => start_target_1 x0))).bind fun x3 =>
    some (bif (bif (bif x1 then true else x2) then (decide ((a0.length : Int) ≤ (500 : Int))) else false) then (!x3) else false)

noncomputable def strings_trimRightByte_b1 (a1 : Int) (s2 : Bytes) : Option (Bytes ⊕ Bytes) :=
  (gidx (decide ((s2.length : Int) > (0 : Int))) s2 (IntKind.i64.wrap ((s2.length : Int) - (1 : Int)))).bind fun x3 =>
  bif (bif (decide ((s2.length : Int) > (0 : Int))) then ((x3.toNat : Int) == a1) else false) then
    (slc s2 0 (IntKind.i64.wrap ((s2.length : Int) - (1 : Int)))).bind fun x4 =>
    some (.inl x4)
  else
    some (.inr s2)
noncomputable def strings_trimRightByte (a0 : Bytes) (a1 : Int) : Option Bytes :=
  (loopO (strings_trimRightByte_b1 a1) a0 : Option Bytes).bind fun j1 =>
  some j1

noncomputable def strings_trimLeftByte_b1 (a1 : Int) (s2 : Bytes) : Option (Bytes ⊕ Bytes) :=
  (gidx (decide ((s2.length : Int) > (0 : Int))) s2 (0 : Int)).bind fun x3 =>
  bif (bif (decide ((s2.length : Int) > (0 : Int))) then ((x3.toNat : Int) == a1) else false) then
    (slc s2 (1 : Int) (s2.length : Int)).bind fun x4 =>
    some (.inl x4)
  else
    some (.inr s2)
noncomputable def strings_trimLeftByte (a0 : Bytes) (a1 : Int) : Option Bytes :=
  (loopO (strings_trimLeftByte_b1 a1) a0 : Option Bytes).bind fun j1 =>
  some j1

noncomputable def strings_makeASCIISet_b1 (a0 : Bytes) (x : (Int × (List Bool))) : Option ((Int × (List Bool)) ⊕ ((List Bool) × Bool)) :=
  match x with
  | (s1, s2) =>
    bif (decide (s1 < (a0.length : Int))) then
      (idx a0 s1).bind fun x3 =>
      bif (decide ((x3.toNat : Int) ≥ (128 : Int))) then
        chk ((s2).length = 256) <|
        chk ((s2).length = 256 ∧ (s2).length = 256) <|
        chk ((s2).length = 256) (some (.inr (s2, false)))
      else
        chk (0 ≤ (x3.toNat : Int) ∧ (x3.toNat : Int) < 256) <|
        (seti s2 (x3.toNat : Int) true).bind fun x7 =>
        some (.inl ((IntKind.i64.wrap (s1 + (1 : Int))), x7))
    else
      chk ((s2).length = 256) <|
      chk ((s2).length = 256 ∧ (s2).length = 256) <|
      chk ((s2).length = 256) (some (.inr (s2, true)))
noncomputable def strings_makeASCIISet (a0 : Bytes) : Option ((List Bool) × Bool) :=
  loopO (strings_makeASCIISet_b1 a0) ((0 : Int), (List.replicate 256 false))

noncomputable def strings_asciiSet_contains (a0 : (List Bool)) (a1 : Int) : Option Bool :=
  chk (0 ≤ a1 ∧ a1 < 256) <|
  (idx a0 a1).bind fun x2 =>
  some x2

noncomputable def strings_trimRightASCII_b1 (a1 : (List Bool)) (s2 : Bytes) : Option (Bytes ⊕ Bytes) :=
  bif (decide ((s2.length : Int) > (0 : Int))) then
    (idx s2 (IntKind.i64.wrap ((s2.length : Int) - (1 : Int)))).bind fun x3 =>
    (strings_asciiSet_contains a1 (x3.toNat : Int)).bind fun x4 =>
    bif (!x4) then
      some (.inr s2)
    else
      (slc s2 0 (IntKind.i64.wrap ((s2.length : Int) - (1 : Int)))).bind fun x5 =>
      some (.inl x5)
  else
    some (.inr s2)
noncomputable def strings_trimRightASCII (a0 : Bytes) (a1 : (List Bool)) : Option Bytes :=
  (loopO (strings_trimRightASCII_b1 a1) a0 : Option Bytes).bind fun j1 =>
  some j1

noncomputable def strings_trimLeftASCII_b1 (a1 : (List Bool)) (s2 : Bytes) : Option (Bytes ⊕ Bytes) :=
  bif (decide ((s2.length : Int) > (0 : Int))) then
    (idx s2 (0 : Int)).bind fun x3 =>
    (strings_asciiSet_contains a1 (x3.toNat : Int)).bind fun x4 =>
    bif (!x4) then
      some (.inr s2)
    else
      (slc s2 (1 : Int) (s2.length : Int)).bind fun x5 =>
      some (.inl x5)
  else
    some (.inr s2)
noncomputable def strings_trimLeftASCII (a0 : Bytes) (a1 : (List Bool)) : Option Bytes :=
  (loopO (strings_trimLeftASCII_b1 a1) a0 : Option Bytes).bind fun j1 =>
  some j1

noncomputable def unicode_utf8_RuneStart (a0 : Int) : Option Bool :=
  some ((bits .and .u8 a0 (192 : Int)) != (128 : Int))

noncomputable def unicode_utf8_decodeRuneInStringSlow (a0 : Bytes) : Option (Int × Int) :=
  bif (decide ((a0.length : Int) < (1 : Int))) then
    some ((65533 : Int), (0 : Int))
  else
    (idx a0 (0 : Int)).bind fun x1 =>
    none

noncomputable def unicode_utf8_DecodeRuneInString (a0 : Bytes) : Option (Int × Int) :=
  (gidx (!(a0 == ([] : Bytes))) a0 (0 : Int)).bind fun x1 =>
  bif (bif (!(a0 == ([] : Bytes))) then (decide ((x1.toNat : Int) < (128 : Int))) else false) then
    (idx a0 (0 : Int)).bind fun x2 =>
    some ((IntKind.i32.wrap (x2.toNat : Int)), (1 : Int))
  else
    (unicode_utf8_decodeRuneInStringSlow a0).bind fun x3 =>
    some ((x3.1), (x3.2))

noncomputable def unicode_utf8_DecodeLastRuneInString_b1 (a0 : Bytes) (s3 : Int) : Option (Int ⊕ Int) :=
  bif (decide (s3 ≥ (imax (IntKind.i64.wrap ((a0.length : Int) - (4 : Int))) (0 : Int)))) then
    (idx a0 s3).bind fun x4 =>
    (unicode_utf8_RuneStart (x4.toNat : Int)).bind fun x5 =>
    bif x5 then
      some (.inr s3)
    else
      some (.inl (IntKind.i64.wrap (s3 - (1 : Int))))
  else
    some (.inr s3)
noncomputable def unicode_utf8_DecodeLastRuneInString (a0 : Bytes) : Option (Int × Int) :=
  bif ((a0.length : Int) == (0 : Int)) then
    some ((65533 : Int), (0 : Int))
  else
    (idx a0 (IntKind.i64.wrap ((a0.length : Int) - (1 : Int)))).bind fun x1 =>
    bif (decide ((IntKind.i32.wrap (x1.toNat : Int)) < (128 : Int))) then
      some ((IntKind.i32.wrap (x1.toNat : Int)), (1 : Int))
    else
      (loopO (unicode_utf8_DecodeLastRuneInString_b1 a0) (IntKind.i64.wrap ((IntKind.i64.wrap ((a0.length : Int) - (1 : Int))) - (1 : Int))) : Option Int).bind fun j2 =>
      bif (decide (j2 < (0 : Int))) then
        (slc a0 (0 : Int) (a0.length : Int)).bind fun x6 =>
        (unicode_utf8_DecodeRuneInString x6).bind fun x7 =>
        bif ((IntKind.i64.wrap ((0 : Int) + x7.2)) != (a0.length : Int)) then
          some ((65533 : Int), (1 : Int))
        else
          some ((x7.1), (x7.2))
      else
        (slc a0 j2 (a0.length : Int)).bind fun x8 =>
        (unicode_utf8_DecodeRuneInString x8).bind fun x9 =>
        bif ((IntKind.i64.wrap (j2 + x9.2)) != (a0.length : Int)) then
          some ((65533 : Int), (1 : Int))
        else
          some ((x9.1), (x9.2))

noncomputable def unicode_utf8_ValidRune (a0 : Int) : Option Bool :=
  bif (bif (decide ((0 : Int) ≤ a0)) then (decide (a0 < (55296 : Int))) else false) then
    some true
  else
    bif (bif (decide ((57343 : Int) < a0)) then (decide (a0 ≤ (1114111 : Int))) else false) then
      some true
    else
      some false

noncomputable def strings_IndexRune (a0 : Bytes) (a1 : Int) : Option Int :=
  bif (bif (decide ((0 : Int) ≤ a1)) then (decide (a1 < (128 : Int))) else false) then
    (strings_IndexByte a0 (IntKind.u8.wrap a1)).bind fun x1 =>
    some x1
  else
    bif (a1 == (65533 : Int)) then
      none
    else
      (unicode_utf8_ValidRune a1).bind fun x2 =>
      bif (!x2) then
        some (-1 : Int)
      else
        none

noncomputable def strings_ContainsRune (a0 : Bytes) (a1 : Int) : Option Bool :=
  (strings_IndexRune a0 a1).bind fun x1 =>
  some (decide (x1 ≥ (0 : Int)))

noncomputable def strings_trimRightUnicode_b1 (a1 : Bytes) (s2 : Bytes) : Option (Bytes ⊕ Bytes) :=
  bif (decide ((s2.length : Int) > (0 : Int))) then
    (idx s2 (IntKind.i64.wrap ((s2.length : Int) - (1 : Int)))).bind fun x3 =>
    bif (decide ((IntKind.i32.wrap (x3.toNat : Int)) ≥ (128 : Int))) then
      (unicode_utf8_DecodeLastRuneInString s2).bind fun x4 =>
      (strings_ContainsRune a1 (x4.1)).bind fun x5 =>
      bif (!x5) then
        some (.inr s2)
      else
        (slc s2 0 (IntKind.i64.wrap ((s2.length : Int) - x4.2))).bind fun x6 =>
        some (.inl x6)
    else
      (strings_ContainsRune a1 (IntKind.i32.wrap (x3.toNat : Int))).bind fun x7 =>
      bif (!x7) then
        some (.inr s2)
      else
        (slc s2 0 (IntKind.i64.wrap ((s2.length : Int) - (1 : Int)))).bind fun x8 =>
        some (.inl x8)
  else
    some (.inr s2)
noncomputable def strings_trimRightUnicode (a0 : Bytes) (a1 : Bytes) : Option Bytes :=
  (loopO (strings_trimRightUnicode_b1 a1) a0 : Option Bytes).bind fun j1 =>
  some j1

noncomputable def strings_trimLeftUnicode_b1 (a1 : Bytes) (s2 : Bytes) : Option (Bytes ⊕ Bytes) :=
  bif (decide ((s2.length : Int) > (0 : Int))) then
    (unicode_utf8_DecodeRuneInString s2).bind fun x3 =>
    (strings_ContainsRune a1 (x3.1)).bind fun x4 =>
    bif (!x4) then
      some (.inr s2)
    else
      (slc s2 (x3.2) (s2.length : Int)).bind fun x5 =>
      some (.inl x5)
  else
    some (.inr s2)
noncomputable def strings_trimLeftUnicode (a0 : Bytes) (a1 : Bytes) : Option Bytes :=
  (loopO (strings_trimLeftUnicode_b1 a1) a0 : Option Bytes).bind fun j1 =>
  some j1

noncomputable def strings_Trim (a0 : Bytes) (a1 : Bytes) : Option Bytes :=
  bif (bif (a0 == ([] : Bytes)) then true else (a1 == ([] : Bytes))) then
    some a0
  else
    (gidx ((a1.length : Int) == (1 : Int)) a1 (0 : Int)).bind fun x1 =>
    bif (bif ((a1.length : Int) == (1 : Int)) then (decide ((x1.toNat : Int) < (128 : Int))) else false) then
      (idx a1 (0 : Int)).bind fun x2 =>
      (strings_trimRightByte a0 (x2.toNat : Int)).bind fun x3 =>
      (idx a1 (0 : Int)).bind fun x4 =>
      (strings_trimLeftByte x3 (x4.toNat : Int)).bind fun x5 =>
      some x5
    else
      (strings_makeASCIISet a1).bind fun x6 =>
      chk ((x6.1).length = 256) <|
      chk (0 < (x6.1).length) <|
      bif x6.2 then
        (strings_trimRightASCII a0 (x6.1)).bind fun x8 =>
        (strings_trimLeftASCII x8 (x6.1)).bind fun x9 =>
        some x9
      else
        (strings_trimRightUnicode a0 a1).bind fun x10 =>
        (strings_trimLeftUnicode x10 a1).bind fun x11 =>
        some x11

noncomputable def text_Trim (a0 : Bytes) : Option Bytes :=
  (strings_Trim a0 ([32, 9] : Bytes)).bind fun x1 =>
  some x1

noncomputable def start_Right_1 (a0 : Int) : Option Bool :=
  some (bif (bif (decide (a0 < (32 : Int))) then (a0 != (9 : Int)) else false) then true else (a0 == (127 : Int)))

noncomputable def start_Right (a0 : S_Start) : Option Bool :=
  bif (bif ((a0.Minor) != (0 : Int)) then ((a0.Minor) != (1 : Int)) else false) then
    some false
  else
    bif ((a0.Code) == (0 : Int)) then
      (gcall (a0.Reason == ([] : Bytes)) (text_Token (a0.Method))).bind fun x1 =>
      (gcall (bif (bif (a0.Reason == ([] : Bytes)) then x1 else false) then (decide (((a0.Method).length : Int) ≤ (20 : Int))) else false) (start_target (a0.Target))).bind fun x2 =>
      some (bif (bif (bif (a0.Reason == ([] : Bytes)) then x1 else false) then (decide (((a0.Method).length : Int) ≤ (20 : Int))) else false) then x2 else false)
    else
      (gcall (bif (bif (bif (bif (decide ((a0.Code) ≥ (100 : Int))) then (decide ((a0.Code) ≤ (599 : Int))) else false) then (a0.Method == ([] : Bytes)) else false) then (a0.Target == ([] : Bytes)) else false) then (decide (((a0.Reason).length : Int) ≤ (100 : Int))) else false) (text_Trim (a0.Reason))).bind fun x3 =>
      (gcall (bif (bif (bif (bif (bif (decide ((a0.Code) ≥ (100 : Int))) then (decide ((a0.Code) ≤ (599 : Int))) else false) then (a0.Method == ([] : Bytes)) else false) then (a0.Target == ([] : Bytes)) else false) then (decide (((a0.Reason).length : Int) ≤ (100 : Int))) else false) then (x3 == a0.Reason) else false) (slices_ContainsFunc__byte_byte (a0.Reason) (fun x0 => start_Right_1 x0))).bind fun x4 =>
      some (bif (bif (bif (bif (bif (bif (decide ((a0.Code) ≥ (100 : Int))) then (decide ((a0.Code) ≤ (599 : Int))) else false) then (a0.Method == ([] : Bytes)) else false) then (a0.Target == ([] : Bytes)) else false) then (decide (((a0.Reason).length : Int) ≤ (100 : Int))) else false) then (x3 == a0.Reason) else false) then (!x4) else false)

noncomputable def slices_IndexFunc__api_Field_api_Field_b1 (a0 : (List S_Field)) (a1i : S_Field → Option Bool) (s1 : Int) : Option (Int ⊕ Int) :=
  bif (decide (s1 < (a0.length : Int))) then
    (idx a0 s1).bind fun x2 =>
    (a1i x2).bind fun x3 =>
    bif x3 then
      some (.inr s1)
    else
      some (.inl (IntKind.i64.wrap (s1 + (1 : Int))))
  else
    some (.inr (-1 : Int))
noncomputable def slices_IndexFunc__api_Field_api_Field (a0 : (List S_Field)) (a1i : S_Field → Option Bool) : Option Int :=
  loopO (slices_IndexFunc__api_Field_api_Field_b1 a0 a1i) (0 : Int)

noncomputable def slices_ContainsFunc__api_Field_api_Field (a0 : (List S_Field)) (a1i : S_Field → Option Bool) : Option Bool :=
  (slices_IndexFunc__api_Field_api_Field a0 (a1i)).bind fun x1 =>
  some (decide (x1 ≥ (0 : Int)))

noncomputable def table_may_1 (a0 : Int) : Option Bool :=
  some (bif (bif (decide (a0 < (32 : Int))) then (a0 != (9 : Int)) else false) then true else (a0 == (127 : Int)))

noncomputable def table_may (a0 : S_Field) : Option Bool :=
  (text_Token (a0.Name)).bind fun x1 =>
  (gcall x1 (text_Trim (a0.Value))).bind fun x2 =>
  (gcall (bif (bif x1 then (x2 == a0.Value) else false) then (decide (((a0.Value).length : Int) ≤ (1000 : Int))) else false) (slices_ContainsFunc__byte_byte (a0.Value) (fun x0 => table_may_1 x0))).bind fun x3 =>
  some (bif (bif (bif x1 then (x2 == a0.Value) else false) then (decide (((a0.Value).length : Int) ≤ (1000 : Int))) else false) then (!x3) else false)

noncomputable def table_Right_1 (a0 : S_Field) : Option Bool :=
  (table_may a0).bind fun x1 =>
  some (!x1)

noncomputable def table_Right (a0 : (List S_Field)) : Option Bool :=
  (gcall (decide ((a0.length : Int) ≤ (40 : Int))) (slices_ContainsFunc__api_Field_api_Field a0 (fun x0 => table_Right_1 x0))).bind fun x1 =>
  some (bif (decide ((a0.length : Int) ≤ (40 : Int))) then (!x1) else false)

noncomputable def table_named (a0 : Bytes) : Option Bytes :=
  some a0

noncomputable def table_keep_api_Field_b1 (a0 : (List S_Field)) (a1i : S_Field → Option Bool) (x : ((List S_Field) × Int)) : Option (((List S_Field) × Int) ⊕ (List S_Field)) :=
  match x with
  | (s2, s3) =>
    bif (decide (s3 < (a0.length : Int))) then
      (idx a0 s3).bind fun x4 =>
      (a1i x4).bind fun x5 =>
      bif x5 then
        (app 32 s2 ([x4] : List S_Field)).bind fun x6 =>
        some (.inl (x6, (IntKind.i64.wrap (s3 + (1 : Int)))))
      else
        some (.inl (s2, (IntKind.i64.wrap (s3 + (1 : Int)))))
    else
      some (.inr s2)
noncomputable def table_keep_api_Field (a0 : (List S_Field)) (a1i : S_Field → Option Bool) : Option (List S_Field) :=
  (loopO (table_keep_api_Field_b1 a0 a1i) (([] : List S_Field), (0 : Int)) : Option (List S_Field)).bind fun j1 =>
  some j1

noncomputable def text_Lower_b1 (a0 : Bytes) (x : (Int × (List UInt8))) : Option ((Int × (List UInt8)) ⊕ (List UInt8)) :=
  match x with
  | (s2, s3) =>
    bif (decide (s2 < (((a0).length : Nat) : Int))) then
      chk (0 ≤ s2 ∧ s2 < ((a0).length : Int)) <|
      (idx s3 s2).bind fun x5 =>
      bif (bif (decide ((x5.toNat : Int) ≥ (65 : Int))) then (decide ((x5.toNat : Int) ≤ (90 : Int))) else false) then
        chk (0 ≤ s2 ∧ s2 < ((a0).length : Int)) <|
        (seti s3 s2 (u8 (IntKind.u8.wrap ((IntKind.u8.wrap ((x5.toNat : Int) + (97 : Int))) - (65 : Int))))).bind fun x7 =>
        some (.inl ((IntKind.i64.wrap (s2 + (1 : Int))), x7))
      else
        some (.inl ((IntKind.i64.wrap (s2 + (1 : Int))), s3))
    else
      some (.inr s3)
noncomputable def text_Lower (a0 : Bytes) : Option Bytes :=
  (loopO (text_Lower_b1 a0) ((0 : Int), a0) : Option (List UInt8)).bind fun j1 =>
  chk ((a0).length ≤ (j1).length) <|
  some ((j1).take ((a0).length))

noncomputable def text_Same (a0 : Bytes) (a1 : Bytes) : Option Bool :=
  (text_Lower a0).bind fun x1 =>
  (text_Lower a1).bind fun x2 =>
  some (x1 == x2)

noncomputable def table_named_1 (a0 : S_Field) (c0 : Bytes) : Option Bool :=
  (text_Same (a0.Name) c0).bind fun x1 =>
  some x1

noncomputable def table_All_b1 (x3 : (List S_Field)) (x : ((List Bytes) × Int)) : Option (((List Bytes) × Int) ⊕ (List Bytes)) :=
  match x with
  | (s4, s5) =>
    bif (decide (s5 < (x3.length : Int))) then
      (idx x3 s5).bind fun x6 =>
      (app 16 s4 ([(x6.Value)] : List Bytes)).bind fun x7 =>
      some (.inl (x7, (IntKind.i64.wrap (s5 + (1 : Int)))))
    else
      some (.inr s4)
noncomputable def table_All (a0 : (List S_Field)) (a1 : Bytes) : Option (List Bytes) :=
  ((table_named a1).bind fun x2 =>
  (table_keep_api_Field a0 (fun x0 => table_named_1 x0 x2)).bind fun x3 =>
  loopO (table_All_b1 x3) (([] : List Bytes), (0 : Int)) : Option (List Bytes)).bind fun j1 =>
  some j1

noncomputable def table_Joined (a0 : (List S_Field)) (a1 : Bytes) : Option (Bytes × Bool) :=
  (table_All a0 a1).bind fun x1 =>
  (strings_Join x1 ([44, 32] : Bytes)).bind fun x2 =>
  some (x2, (decide ((x1.length : Int) > (0 : Int))))

noncomputable def number_read_uint64_b1 (a0 : Bytes) (a1 : Int) (a2i : Int → Option Int) (x : (Int × Bool × Int)) : Option ((Int × Bool × Int) ⊕ (Int × Int)) :=
  match x with
  | (s1, s2, s3) =>
    bif (decide (s3 < (a0.length : Int))) then
      (idx a0 s3).bind fun x4 =>
      (a2i (x4.toNat : Int)).bind fun x5 =>
      bif (decide (x5 ≥ a1)) then
        some (.inr ((0 : Int), (10 : Int)))
      else
        bif (decide ((IntKind.u64.wrap ((IntKind.u64.wrap (s1 * a1)) + x5)) > (1099511627776 : Int))) then
          some (.inl ((0 : Int), true, (IntKind.i64.wrap (s3 + (1 : Int)))))
        else
          some (.inl ((IntKind.u64.wrap ((IntKind.u64.wrap (s1 * a1)) + x5)), s2, (IntKind.i64.wrap (s3 + (1 : Int)))))
    else
      bif s2 then
        some (.inr ((0 : Int), (2 : Int)))
      else
        some (.inr (s1, (0 : Int)))
noncomputable def number_read_uint64 (a0 : Bytes) (a1 : Int) (a2i : Int → Option Int) : Option (Int × Int) :=
  bif (a0 == ([] : Bytes)) then
    some ((0 : Int), (10 : Int))
  else
    loopO (number_read_uint64_b1 a0 a1 a2i) ((IntKind.u64.wrap (0 : Int)), false, (0 : Int))

noncomputable def number_ReadDec_1 (a0 : Int) : Option Int :=
  some (IntKind.u64.wrap (IntKind.u8.wrap (a0 - (48 : Int))))

noncomputable def number_ReadDec (a0 : Bytes) : Option (Int × Int) :=
  (number_read_uint64 a0 (10 : Int) (fun x0 => number_ReadDec_1 x0)).bind fun x1 =>
  some ((x1.1), (x1.2))

noncomputable def frame_say_b1 (x1 : (List Bytes)) (x : (Bool × Int × S_Body)) : Option ((Bool × Int × S_Body) ⊕ (S_Body × Int)) :=
  match x with
  | (s4, s5, s6) =>
    bif (decide (s5 < (x1.length : Int))) then
      (idx x1 s5).bind fun x7 =>
      (number_ReadDec x7).bind fun x8 =>
      bif ((x8.2) == (2 : Int)) then
        bif (bif ((x8.2) == (10 : Int)) then true else (bif (decide (s5 > (0 : Int))) then (!(((1 : Int) == (s6.Kind)) && (((-1 : Int) == (s6.Size)) && true))) else false)) then
          some (.inr ((S_Body.mk (0 : Int) (0 : Int)), (32 : Int)))
        else
          some (.inl ((bif (decide ((-1 : Int) < (0 : Int))) then true else (decide ((-1 : Int) > (20000 : Int)))), (IntKind.i64.wrap (s5 + (1 : Int))), (S_Body.mk (1 : Int) (-1 : Int))))
      else
        bif (bif ((x8.2) == (10 : Int)) then true else (bif (decide (s5 > (0 : Int))) then (!(((1 : Int) == (s6.Kind)) && (((IntKind.i64.wrap (x8.1)) == (s6.Size)) && true))) else false)) then
          some (.inr ((S_Body.mk (0 : Int) (0 : Int)), (32 : Int)))
        else
          some (.inl ((bif (decide ((IntKind.i64.wrap (x8.1)) < (0 : Int))) then true else (decide ((IntKind.i64.wrap (x8.1)) > (20000 : Int)))), (IntKind.i64.wrap (s5 + (1 : Int))), (S_Body.mk (1 : Int) (IntKind.i64.wrap (x8.1)))))
    else
      bif s4 then
        some (.inr ((S_Body.mk (0 : Int) (0 : Int)), (2 : Int)))
      else
        some (.inr (s6, (0 : Int)))
noncomputable def frame_say (a0 : Int) (a1 : (List S_Field)) (a2 : S_Body) : Option (S_Body × Int) :=
  (table_All a1 ([67, 111, 110, 116, 101, 110, 116, 45, 76, 101, 110, 103, 116, 104] : Bytes)).bind fun x1 =>
  (table_Joined a1 ([84, 114, 97, 110, 115, 102, 101, 114, 45, 69, 110, 99, 111, 100, 105, 110, 103] : Bytes)).bind fun x2 =>
  bif x2.2 then
    (gcall (!(bif (decide ((x1.length : Int) > (0 : Int))) then true else (a0 == (0 : Int)))) (text_Same (x2.1) ([99, 104, 117, 110, 107, 101, 100] : Bytes))).bind fun x3 =>
    bif (bif (bif (decide ((x1.length : Int) > (0 : Int))) then true else (a0 == (0 : Int))) then true else (!x3)) then
      some ((S_Body.mk (0 : Int) (0 : Int)), (32 : Int))
    else
      some ((S_Body.mk (2 : Int) (0 : Int)), (0 : Int))
  else
    loopO (frame_say_b1 x1) (false, (0 : Int), a2)

noncomputable def frame_Request (a0 : S_Start) (a1 : (List S_Field)) : Option (S_Body × Int) :=
  (start_Right a0).bind fun x1 =>
  (gcall (!(bif (!x1) then true else ((a0.Code) != (0 : Int)))) (table_Right a1)).bind fun x2 =>
  bif (bif (bif (!x1) then true else ((a0.Code) != (0 : Int))) then true else (!x2)) then
    some ((S_Body.mk (0 : Int) (0 : Int)), (1 : Int))
  else
    (frame_say (a0.Minor) a1 (S_Body.mk (0 : Int) (0 : Int))).bind fun x3 =>
    some ((x3.1), (x3.2))

noncomputable def intarsiaref03_Control (a0 : Int) : Option Bool :=
  some (bif (bif (decide (a0 < (32 : Int))) then (a0 != (9 : Int)) else false) then true else (a0 == (127 : Int)))

noncomputable def intarsiaref03_blank (a0 : Int) : Option Bool :=
  some (bif (a0 == (32 : Int)) then true else (a0 == (9 : Int)))

noncomputable def intarsiaref03_Trim_b1 (s2 : Bytes) : Option (Bytes ⊕ Bytes) :=
  (gidx (decide ((s2.length : Int) > (0 : Int))) s2 (0 : Int)).bind fun x3 =>
  (gcall (decide ((s2.length : Int) > (0 : Int))) (intarsiaref03_blank (x3.toNat : Int))).bind fun x4 =>
  bif (bif (decide ((s2.length : Int) > (0 : Int))) then x4 else false) then
    (slc s2 (1 : Int) (s2.length : Int)).bind fun x5 =>
    some (.inl x5)
  else
    some (.inr s2)
noncomputable def intarsiaref03_Trim_b2 (s7 : Bytes) : Option (Bytes ⊕ Bytes) :=
  (gidx (decide ((s7.length : Int) > (0 : Int))) s7 (IntKind.i64.wrap ((s7.length : Int) - (1 : Int)))).bind fun x8 =>
  (gcall (decide ((s7.length : Int) > (0 : Int))) (intarsiaref03_blank (x8.toNat : Int))).bind fun x9 =>
  bif (bif (decide ((s7.length : Int) > (0 : Int))) then x9 else false) then
    (slc s7 0 (IntKind.i64.wrap ((s7.length : Int) - (1 : Int)))).bind fun x10 =>
    some (.inl x10)
  else
    some (.inr s7)
noncomputable def intarsiaref03_Trim (a0 : Bytes) : Option Bytes :=
  (loopO (intarsiaref03_Trim_b1) a0 : Option Bytes).bind fun j1 =>
  (loopO (intarsiaref03_Trim_b2) j1 : Option Bytes).bind fun j6 =>
  some j6

noncomputable def intarsiaref05_find_b1 (a0 : Bytes) (a1 : Int) (s1 : Int) : Option (Int ⊕ Int) :=
  bif (decide (s1 < (a0.length : Int))) then
    (idx a0 s1).bind fun x2 =>
    bif ((x2.toNat : Int) == a1) then
      some (.inr s1)
    else
      some (.inl (IntKind.i64.wrap (s1 + (1 : Int))))
  else
    some (.inr (-1 : Int))
noncomputable def intarsiaref05_find (a0 : Bytes) (a1 : Int) : Option Int :=
  loopO (intarsiaref05_find_b1 a0 a1) (0 : Int)

noncomputable def intarsiaref05_Bytes_b1 (a0 : Bytes) (s1 : Int) : Option (Int ⊕ Bool) :=
  bif (decide (s1 < (a0.length : Int))) then
    (idx a0 s1).bind fun x2 =>
    (gcall (!(bif (bif (decide ((x2.toNat : Int) < (33 : Int))) then true else (decide ((x2.toNat : Int) > (126 : Int)))) then true else ((x2.toNat : Int) == (96 : Int)))) (intarsiaref05_find ([34, 35, 60, 62, 92, 94, 123, 124, 125] : Bytes) (x2.toNat : Int))).bind fun x3 =>
    bif (bif (bif (bif (decide ((x2.toNat : Int) < (33 : Int))) then true else (decide ((x2.toNat : Int) > (126 : Int)))) then true else ((x2.toNat : Int) == (96 : Int))) then true else (decide (x3 ≥ (0 : Int)))) then
      some (.inr false)
    else
      some (.inl (IntKind.i64.wrap (s1 + (1 : Int))))
  else
    some (.inr true)
noncomputable def intarsiaref05_Bytes (a0 : Bytes) : Option Bool :=
  loopO (intarsiaref05_Bytes_b1 a0) (0 : Int)

noncomputable def intarsiaref03_word_b1 (a0 : Int) (s1 : Int) : Option (Int ⊕ Bool) :=
  bif (decide (s1 < (([33, 35, 36, 37, 38, 39, 42, 43, 45, 46, 94, 95, 124, 126] : Bytes).length : Int))) then
    (idx ([33, 35, 36, 37, 38, 39, 42, 43, 45, 46, 94, 95, 124, 126] : Bytes) s1).bind fun x2 =>
    bif ((x2.toNat : Int) == a0) then
      some (.inr true)
    else
      some (.inl (IntKind.i64.wrap (s1 + (1 : Int))))
  else
    some (.inr false)
noncomputable def intarsiaref03_word (a0 : Int) : Option Bool :=
  bif (bif (bif (bif (bif (decide (a0 ≥ (97 : Int))) then (decide (a0 ≤ (122 : Int))) else false) then true else (bif (decide (a0 ≥ (65 : Int))) then (decide (a0 ≤ (90 : Int))) else false)) then true else (bif (decide (a0 ≥ (48 : Int))) then (decide (a0 ≤ (57 : Int))) else false)) then true else (a0 == (96 : Int))) then
    some true
  else
    loopO (intarsiaref03_word_b1 a0) (0 : Int)

noncomputable def intarsiaref03_Token_b1 (a0 : Bytes) (s1 : Int) : Option (Int ⊕ Bool) :=
  bif (decide (s1 < (a0.length : Int))) then
    (idx a0 s1).bind fun x2 =>
    (intarsiaref03_word (x2.toNat : Int)).bind fun x3 =>
    bif (!x3) then
      some (.inr false)
    else
      some (.inl (IntKind.i64.wrap (s1 + (1 : Int))))
  else
    some (.inr (!(a0 == ([] : Bytes))))
noncomputable def intarsiaref03_Token (a0 : Bytes) : Option Bool :=
  loopO (intarsiaref03_Token_b1 a0) (0 : Int)

noncomputable def intarsiaref06_Right_b1 (a0 : S_Start) (s1 : Int) : Option (Int ⊕ Bool) :=
  bif (decide (s1 < ((a0.Reason).length : Int))) then
    (idx (a0.Reason) s1).bind fun x2 =>
    (intarsiaref03_Control (x2.toNat : Int)).bind fun x3 =>
    bif x3 then
      some (.inr false)
    else
      some (.inl (IntKind.i64.wrap (s1 + (1 : Int))))
  else
    (gcall (bif (bif (bif (bif (decide ((a0.Code) ≥ (100 : Int))) then (decide ((a0.Code) < (600 : Int))) else false) then (a0.Method == ([] : Bytes)) else false) then (a0.Target == ([] : Bytes)) else false) then (decide (((a0.Reason).length : Int) ≤ (100 : Int))) else false) (intarsiaref03_Trim (a0.Reason))).bind fun x4 =>
    some (.inr (bif (bif (bif (bif (bif (decide ((a0.Code) ≥ (100 : Int))) then (decide ((a0.Code) < (600 : Int))) else false) then (a0.Method == ([] : Bytes)) else false) then (a0.Target == ([] : Bytes)) else false) then (decide (((a0.Reason).length : Int) ≤ (100 : Int))) else false) then (x4 == a0.Reason) else false))
noncomputable def intarsiaref06_Right (a0 : S_Start) : Option Bool :=
  bif (bif (decide ((a0.Minor) < (0 : Int))) then true else (decide ((a0.Minor) > (1 : Int)))) then
    some false
  else
    bif ((a0.Code) != (0 : Int)) then
      loopO (intarsiaref06_Right_b1 a0) (0 : Int)
    else
      (gcall ((!(a0.Target == ([42] : Bytes))) && (bif (decide (((a0.Target).length : Int) > (0 : Int))) then (decide (((a0.Target).length : Int) ≤ (500 : Int))) else false)) (intarsiaref05_Bytes (a0.Target))).bind fun x5 =>
      (gidx ((!(a0.Target == ([42] : Bytes))) && (bif (bif (decide (((a0.Target).length : Int) > (0 : Int))) then (decide (((a0.Target).length : Int) ≤ (500 : Int))) else false) then x5 else false)) (a0.Target) (0 : Int)).bind fun x6 =>
      (gslc ((((!(a0.Target == ([42] : Bytes))) && (bif (bif (decide (((a0.Target).length : Int) > (0 : Int))) then (decide (((a0.Target).length : Int) ≤ (500 : Int))) else false) then x5 else false)) && (!((x6.toNat : Int) == (47 : Int)))) && (decide (((a0.Target).length : Int) ≥ (7 : Int)))) (a0.Target) 0 (7 : Int)).bind fun x7 =>
      (gcall (bif (bif (a0.Target == ([42] : Bytes)) then true else (bif (bif (bif (decide (((a0.Target).length : Int) > (0 : Int))) then (decide (((a0.Target).length : Int) ≤ (500 : Int))) else false) then x5 else false) then (bif ((x6.toNat : Int) == (47 : Int)) then true else (bif (decide (((a0.Target).length : Int) ≥ (7 : Int))) then (x7 == ([104, 116, 116, 112, 58, 47, 47] : Bytes)) else false)) else false)) then (a0.Reason == ([] : Bytes)) else false) (intarsiaref03_Token (a0.Method))).bind fun x8 =>
      some (bif (bif (bif (bif (a0.Target == ([42] : Bytes)) then true else (bif (bif (bif (decide (((a0.Target).length : Int) > (0 : Int))) then (decide (((a0.Target).length : Int) ≤ (500 : Int))) else false) then x5 else false) then (bif ((x6.toNat : Int) == (47 : Int)) then true else (bif (decide (((a0.Target).length : Int) ≥ (7 : Int))) then (x7 == ([104, 116, 116, 112, 58, 47, 47] : Bytes)) else false)) else false)) then (a0.Reason == ([] : Bytes)) else false) then x8 else false) then (decide (((a0.Method).length : Int) ≤ (20 : Int))) else false)

noncomputable def intarsiaref04_May_b1 (a0 : S_Field) (s1 : Int) : Option (Int ⊕ Bool) :=
  bif (decide (s1 < ((a0.Value).length : Int))) then
    (idx (a0.Value) s1).bind fun x2 =>
    (intarsiaref03_Control (x2.toNat : Int)).bind fun x3 =>
    bif x3 then
      some (.inr false)
    else
      some (.inl (IntKind.i64.wrap (s1 + (1 : Int))))
  else
    (intarsiaref03_Token (a0.Name)).bind fun x4 =>
    (gcall x4 (intarsiaref03_Trim (a0.Value))).bind fun x5 =>
    some (.inr (bif (bif x4 then (x5 == a0.Value) else false) then (decide (((a0.Value).length : Int) ≤ (1000 : Int))) else false))
noncomputable def intarsiaref04_May (a0 : S_Field) : Option Bool :=
  loopO (intarsiaref04_May_b1 a0) (0 : Int)

noncomputable def intarsiaref04_Right_b1 (a0 : (List S_Field)) (s1 : Int) : Option (Int ⊕ Bool) :=
  bif (decide (s1 < (a0.length : Int))) then
    (idx a0 s1).bind fun x2 =>
    (intarsiaref04_May x2).bind fun x3 =>
    bif (!x3) then
      some (.inr false)
    else
      some (.inl (IntKind.i64.wrap (s1 + (1 : Int))))
  else
    some (.inr (decide ((a0.length : Int) ≤ (40 : Int))))
noncomputable def intarsiaref04_Right (a0 : (List S_Field)) : Option Bool :=
  loopO (intarsiaref04_Right_b1 a0) (0 : Int)

noncomputable def intarsiaref03_Lower_b1 (a0 : Bytes) (x : (Bytes × Int)) : Option ((Bytes × Int) ⊕ Bytes) :=
  match x with
  | (s2, s3) =>
    bif (decide (s3 < (a0.length : Int))) then
      (idx a0 s3).bind fun x4 =>
      bif (bif (decide ((x4.toNat : Int) ≥ (65 : Int))) then (decide ((x4.toNat : Int) ≤ (90 : Int))) else false) then
        (cat s2 ([u8 (IntKind.u8.wrap ((x4.toNat : Int) + (32 : Int)))] : List UInt8)).bind fun x5 =>
        some (.inl (x5, (IntKind.i64.wrap (s3 + (1 : Int)))))
      else
        (cat s2 ([u8 (x4.toNat : Int)] : List UInt8)).bind fun x6 =>
        some (.inl (x6, (IntKind.i64.wrap (s3 + (1 : Int)))))
    else
      some (.inr s2)
noncomputable def intarsiaref03_Lower (a0 : Bytes) : Option Bytes :=
  (loopO (intarsiaref03_Lower_b1 a0) (([] : Bytes), (0 : Int)) : Option Bytes).bind fun j1 =>
  some j1

noncomputable def intarsiaref04_same (a0 : Bytes) (a1 : Bytes) : Option Bool :=
  (intarsiaref03_Lower a0).bind fun x1 =>
  (intarsiaref03_Lower a1).bind fun x2 =>
  some (x1 == x2)

noncomputable def intarsiaref04_All_b1 (a0 : (List S_Field)) (a1 : Bytes) (x : ((List Bytes) × Int)) : Option (((List Bytes) × Int) ⊕ (List Bytes)) :=
  match x with
  | (s2, s3) =>
    bif (decide (s3 < (a0.length : Int))) then
      (idx a0 s3).bind fun x4 =>
      (intarsiaref04_same (x4.Name) a1).bind fun x5 =>
      bif x5 then
        (app 16 s2 ([(x4.Value)] : List Bytes)).bind fun x6 =>
        some (.inl (x6, (IntKind.i64.wrap (s3 + (1 : Int)))))
      else
        some (.inl (s2, (IntKind.i64.wrap (s3 + (1 : Int)))))
    else
      some (.inr s2)
noncomputable def intarsiaref04_All (a0 : (List S_Field)) (a1 : Bytes) : Option (List Bytes) :=
  (loopO (intarsiaref04_All_b1 a0 a1) (([] : List Bytes), (0 : Int)) : Option (List Bytes)).bind fun j1 =>
  some j1

noncomputable def intarsiaref04_Joined_b1 (a0 : (List Bytes)) (x : (Bytes × Int)) : Option ((Bytes × Int) ⊕ Bytes) :=
  match x with
  | (s2, s3) =>
    bif (decide (s3 < (a0.length : Int))) then
      (idx a0 s3).bind fun x4 =>
      bif (decide (s3 > (0 : Int))) then
        (cat s2 ([44, 32] : Bytes)).bind fun x5 =>
        (cat x5 x4).bind fun x6 =>
        some (.inl (x6, (IntKind.i64.wrap (s3 + (1 : Int)))))
      else
        (cat s2 x4).bind fun x7 =>
        some (.inl (x7, (IntKind.i64.wrap (s3 + (1 : Int)))))
    else
      some (.inr s2)
noncomputable def intarsiaref04_Joined (a0 : (List Bytes)) : Option Bytes :=
  (loopO (intarsiaref04_Joined_b1 a0) (([] : Bytes), (0 : Int)) : Option Bytes).bind fun j1 =>
  some j1

noncomputable def intarsiaref02_value (a0 : Int) : Option Int :=
  bif (bif (decide (a0 ≥ (48 : Int))) then (decide (a0 ≤ (57 : Int))) else false) then
    some (IntKind.u64.wrap (IntKind.u8.wrap (a0 - (48 : Int))))
  else
    bif (bif (decide (a0 ≥ (97 : Int))) then (decide (a0 ≤ (102 : Int))) else false) then
      some (IntKind.u64.wrap ((IntKind.u64.wrap (IntKind.u8.wrap (a0 - (97 : Int)))) + (10 : Int)))
    else
      bif (bif (decide (a0 ≥ (65 : Int))) then (decide (a0 ≤ (70 : Int))) else false) then
        some (IntKind.u64.wrap ((IntKind.u64.wrap (IntKind.u8.wrap (a0 - (65 : Int)))) + (10 : Int)))
      else
        some (99 : Int)

noncomputable def intarsiaref02_Read_b2 (a0 : Bytes) (a1 : Int) (x : (Int × Int)) : Option ((Int × Int) ⊕ (Int ⊕ (Int × Int))) :=
  match x with
  | (s4, s5) =>
    bif (decide (s5 < (a0.length : Int))) then
      (idx a0 s5).bind fun x6 =>
      (intarsiaref02_value (x6.toNat : Int)).bind fun x7 =>
      bif (decide ((IntKind.u64.wrap ((IntKind.u64.wrap (a1 * s4)) + x7)) > (1099511627776 : Int))) then
        some (.inr (.inr ((0 : Int), (2 : Int))))
      else
        some (.inl ((IntKind.u64.wrap ((IntKind.u64.wrap (a1 * s4)) + x7)), (IntKind.i64.wrap (s5 + (1 : Int)))))
    else
      some (.inr (.inr (s4, (0 : Int))))
noncomputable def intarsiaref02_Read_b1 (a0 : Bytes) (a1 : Int) (s1 : Int) : Option (Int ⊕ (Int × Int)) :=
  bif (decide (s1 < (a0.length : Int))) then
    (idx a0 s1).bind fun x2 =>
    (intarsiaref02_value (x2.toNat : Int)).bind fun x3 =>
    bif (decide (x3 ≥ a1)) then
      some (.inr ((0 : Int), (10 : Int)))
    else
      some (.inl (IntKind.i64.wrap (s1 + (1 : Int))))
  else
    loopO (intarsiaref02_Read_b2 a0 a1) ((0 : Int), (0 : Int))
noncomputable def intarsiaref02_Read (a0 : Bytes) (a1 : Int) : Option (Int × Int) :=
  bif (a0 == ([] : Bytes)) then
    some ((0 : Int), (10 : Int))
  else
    loopO (intarsiaref02_Read_b1 a0 a1) (0 : Int)

noncomputable def intarsiaref09_Say_b1 (x2 : (List Bytes)) (x : (Int × Int)) : Option ((Int × Int) ⊕ (S_Body × Int)) :=
  match x with
  | (s5, s6) =>
    bif (decide (s6 < (x2.length : Int))) then
      (idx x2 s6).bind fun x7 =>
      (intarsiaref02_Read x7 (10 : Int)).bind fun x8 =>
      bif ((x8.2) == (2 : Int)) then
        bif (bif ((x8.2) == (10 : Int)) then true else (bif (decide (s6 > (0 : Int))) then ((18446744073709551615 : Int) != s5) else false)) then
          some (.inr ((S_Body.mk (0 : Int) (0 : Int)), (32 : Int)))
        else
          some (.inl ((18446744073709551615 : Int), (IntKind.i64.wrap (s6 + (1 : Int)))))
      else
        bif (bif ((x8.2) == (10 : Int)) then true else (bif (decide (s6 > (0 : Int))) then ((x8.1) != s5) else false)) then
          some (.inr ((S_Body.mk (0 : Int) (0 : Int)), (32 : Int)))
        else
          some (.inl ((x8.1), (IntKind.i64.wrap (s6 + (1 : Int)))))
    else
      bif (decide (s5 > (20000 : Int))) then
        some (.inr ((S_Body.mk (0 : Int) (0 : Int)), (2 : Int)))
      else
        some (.inr ((S_Body.mk (1 : Int) (IntKind.i64.wrap s5)), (0 : Int)))
noncomputable def intarsiaref09_Say (a0 : Int) (a1 : (List S_Field)) : Option (S_Body × Int) :=
  (intarsiaref04_All a1 ([116, 114, 97, 110, 115, 102, 101, 114, 45, 101, 110, 99, 111, 100, 105, 110, 103] : Bytes)).bind fun x1 =>
  (intarsiaref04_All a1 ([99, 111, 110, 116, 101, 110, 116, 45, 108, 101, 110, 103, 116, 104] : Bytes)).bind fun x2 =>
  bif (decide ((x1.length : Int) > (0 : Int))) then
    (gcall (!(bif (decide ((x2.length : Int) > (0 : Int))) then true else (a0 == (0 : Int)))) (intarsiaref04_Joined x1)).bind fun x3 =>
    (gcall (!(bif (decide ((x2.length : Int) > (0 : Int))) then true else (a0 == (0 : Int)))) (intarsiaref03_Lower x3)).bind fun x4 =>
    bif (bif (bif (decide ((x2.length : Int) > (0 : Int))) then true else (a0 == (0 : Int))) then true else (!(x4 == ([99, 104, 117, 110, 107, 101, 100] : Bytes)))) then
      some ((S_Body.mk (0 : Int) (0 : Int)), (32 : Int))
    else
      some ((S_Body.mk (2 : Int) (0 : Int)), (0 : Int))
  else
    bif ((x2.length : Int) == (0 : Int)) then
      some ((S_Body.mk (-1 : Int) (0 : Int)), (0 : Int))
    else
      loopO (intarsiaref09_Say_b1 x2) ((0 : Int), (0 : Int))

noncomputable def intarsiaref09_Request (a0 : S_Start) (a1 : (List S_Field)) : Option (S_Body × Int) :=
  (intarsiaref06_Right a0).bind fun x1 =>
  (gcall (!(bif (!x1) then true else ((a0.Code) != (0 : Int)))) (intarsiaref04_Right a1)).bind fun x2 =>
  bif (bif (bif (!x1) then true else ((a0.Code) != (0 : Int))) then true else (!x2)) then
    some ((S_Body.mk (0 : Int) (0 : Int)), (1 : Int))
  else
    (intarsiaref09_Say (a0.Minor) a1).bind fun x3 =>
    bif (decide (((x3.1).Kind) < (0 : Int))) then
      some ((S_Body.mk (0 : Int) (0 : Int)), (x3.2))
    else
      some ((x3.1), (x3.2))

noncomputable def frame_Answer (a0 : S_Start) (a1 : (List S_Field)) (a2 : Bytes) : Option (S_Body × Int) :=
  (start_Right a0).bind fun x1 =>
  (gcall (!(bif (!x1) then true else ((a0.Code) == (0 : Int)))) (table_Right a1)).bind fun x2 =>
  bif (bif (bif (!x1) then true else ((a0.Code) == (0 : Int))) then true else (!x2)) then
    some ((S_Body.mk (0 : Int) (0 : Int)), (1 : Int))
  else
    bif (bif (bif (bif (decide ((a0.Code) < (200 : Int))) then true else ((a0.Code) == (204 : Int))) then true else ((a0.Code) == (304 : Int))) then true else (a2 == ([72, 69, 65, 68] : Bytes))) then
      some ((S_Body.mk (0 : Int) (0 : Int)), (0 : Int))
    else
      (frame_say (a0.Minor) a1 (S_Body.mk (3 : Int) (0 : Int))).bind fun x3 =>
      some ((x3.1), (x3.2))

noncomputable def intarsiaref09_Answer (a0 : S_Start) (a1 : (List S_Field)) (a2 : Bytes) : Option (S_Body × Int) :=
  (intarsiaref06_Right a0).bind fun x1 =>
  (gcall (!(bif (!x1) then true else ((a0.Code) == (0 : Int)))) (intarsiaref04_Right a1)).bind fun x2 =>
  bif (bif (bif (!x1) then true else ((a0.Code) == (0 : Int))) then true else (!x2)) then
    some ((S_Body.mk (0 : Int) (0 : Int)), (1 : Int))
  else
    bif (bif (bif (bif (decide ((a0.Code) < (200 : Int))) then true else ((a0.Code) == (204 : Int))) then true else ((a0.Code) == (304 : Int))) then true else (a2 == ([72, 69, 65, 68] : Bytes))) then
      some ((S_Body.mk (0 : Int) (0 : Int)), (0 : Int))
    else
      (intarsiaref09_Say (a0.Minor) a1).bind fun x3 =>
      bif (decide (((x3.1).Kind) < (0 : Int))) then
        some ((S_Body.mk (3 : Int) (0 : Int)), (x3.2))
      else
        some ((x3.1), (x3.2))

noncomputable def intarsialaw09_alive : Option Bool :=
  (frame_Request (S_Start.mk ([80, 79, 83, 84] : Bytes) ([47] : Bytes) (0 : Int) ([] : Bytes) (0 : Int)) ([(S_Field.mk ([67, 111, 110, 116, 101, 110, 116, 45, 76, 101, 110, 103, 116, 104] : Bytes) ([53] : Bytes))] : List S_Field)).bind fun x1 =>
  some (bif ((x1.2) == (0 : Int)) then ((((x1.1).Kind) == (1 : Int)) && ((((x1.1).Size) == (5 : Int)) && true)) else false)

noncomputable def intarsialaw09_FrameSays (a0 : S_Start) (a1 : (List S_Field)) (a2 : Bytes) : Option Bool :=
  (intarsialaw09_small a0).bind fun x1 =>
  (intarsialaw09_few a1).bind fun x2 =>
  (slc a2 0 (imin (a2.length : Int) (20 : Int))).bind fun x3 =>
  (frame_Request x1 x2).bind fun x4 =>
  (intarsiaref09_Request x1 x2).bind fun x5 =>
  (frame_Answer x1 x2 x3).bind fun x6 =>
  (intarsiaref09_Answer x1 x2 x3).bind fun x7 =>
  (intarsialaw09_alive).bind fun x8 =>
  some (bif (bif (bif (bif x8 then ((((x4.1).Kind) == ((x5.1).Kind)) && ((((x4.1).Size) == ((x5.1).Size)) && true)) else false) then ((x4.2) == (x5.2)) else false) then ((((x6.1).Kind) == ((x7.1).Kind)) && ((((x6.1).Size) == ((x7.1).Size)) && true)) else false) then ((x6.2) == (x7.2)) else false)

noncomputable def intarsiaref04_Add (a0 : (List S_Field)) (a1 : S_Field) : Option ((List S_Field) × Int) :=
  (intarsiaref04_Right a0).bind fun x1 =>
  (gcall (!(!x1)) (intarsiaref04_May a1)).bind fun x2 =>
  bif (bif (!x1) then true else (!x2)) then
    some (([] : List S_Field), (1 : Int))
  else
    bif ((a0.length : Int) == (40 : Int)) then
      some (([] : List S_Field), (4 : Int))
    else
      (app 32 ([] : List S_Field) a0).bind fun x3 =>
      (app 32 x3 ([a1] : List S_Field)).bind fun x4 =>
      some (x4, (0 : Int))

noncomputable def intarsiaref04_Remove_b1 (a0 : (List S_Field)) (a1 : Bytes) (x : ((List S_Field) × Int)) : Option (((List S_Field) × Int) ⊕ (List S_Field)) :=
  match x with
  | (s2, s3) =>
    bif (decide (s3 < (a0.length : Int))) then
      (idx a0 s3).bind fun x4 =>
      (intarsiaref04_same (x4.Name) a1).bind fun x5 =>
      bif (!x5) then
        (app 32 s2 ([x4] : List S_Field)).bind fun x6 =>
        some (.inl (x6, (IntKind.i64.wrap (s3 + (1 : Int)))))
      else
        some (.inl (s2, (IntKind.i64.wrap (s3 + (1 : Int)))))
    else
      some (.inr s2)
noncomputable def intarsiaref04_Remove (a0 : (List S_Field)) (a1 : Bytes) : Option (List S_Field) :=
  (loopO (intarsiaref04_Remove_b1 a0 a1) (([] : List S_Field), (0 : Int)) : Option (List S_Field)).bind fun j1 =>
  some j1

noncomputable def intarsialaw09_FrameNone (a0 : S_Start) (a1 : (List S_Field)) (a2 : Bytes) (a3 : Bytes) : Option Bool :=
  (intarsialaw09_small a0).bind fun x1 =>
  (intarsialaw09_few a1).bind fun x2 =>
  (frame_Answer x1 x2 ([72, 69, 65, 68] : Bytes)).bind fun x3 =>
  (frame_Answer x1 x2 ([71, 69, 84] : Bytes)).bind fun x4 =>
  (intarsiaref06_Right x1).bind fun x5 =>
  (gcall (!(bif (!x5) then true else ((x1.Code) == (0 : Int)))) (intarsiaref04_Right x2)).bind fun x6 =>
  bif (bif (bif (!x5) then true else ((x1.Code) == (0 : Int))) then true else (!x6)) then
    (intarsialaw09_alive).bind fun x7 =>
    some (bif (bif (bif x7 then ((x3.2) == (1 : Int)) else false) then ((x4.2) == (1 : Int)) else false) then ((((x3.1).Kind) == ((x4.1).Kind)) && ((((x3.1).Size) == ((x4.1).Size)) && true)) else false)
  else
    (gcall (!(bif (bif ((x3.2) != (0 : Int)) then true else (!((((x3.1).Kind) == (0 : Int)) && ((((x3.1).Size) == (0 : Int)) && true)))) then true else (bif (bif ((x1.Code) == (204 : Int)) then true else ((x1.Code) == (304 : Int))) then (!((((x4.1).Kind) == ((x3.1).Kind)) && ((((x4.1).Size) == ((x3.1).Size)) && true))) else false))) (intarsialaw09_alive)).bind fun x8 =>
    bif (bif (bif (bif ((x3.2) != (0 : Int)) then true else (!((((x3.1).Kind) == (0 : Int)) && ((((x3.1).Size) == (0 : Int)) && true)))) then true else (bif (bif ((x1.Code) == (204 : Int)) then true else ((x1.Code) == (304 : Int))) then (!((((x4.1).Kind) == ((x3.1).Kind)) && ((((x4.1).Size) == ((x3.1).Size)) && true))) else false)) then true else (!x8)) then
      some false
    else
      (slc a2 0 (imin (a2.length : Int) (20 : Int))).bind fun x9 =>
      (slc a3 0 (imin (a3.length : Int) (20 : Int))).bind fun x10 =>
      (intarsiaref04_Add x2 (S_Field.mk x9 x10)).bind fun x11 =>
      (intarsiaref04_Remove (x11.1) ([99, 111, 110, 116, 101, 110, 116, 45, 108, 101, 110, 103, 116, 104] : Bytes)).bind fun x12 =>
      (intarsiaref04_Remove x12 ([116, 114, 97, 110, 115, 102, 101, 114, 45, 101, 110, 99, 111, 100, 105, 110, 103] : Bytes)).bind fun x13 =>
      (gcall (!((x11.2) != (0 : Int))) (intarsiaref04_Remove x2 ([99, 111, 110, 116, 101, 110, 116, 45, 108, 101, 110, 103, 116, 104] : Bytes))).bind fun x14 =>
      (gcall (!((x11.2) != (0 : Int))) (intarsiaref04_Remove x14 ([116, 114, 97, 110, 115, 102, 101, 114, 45, 101, 110, 99, 111, 100, 105, 110, 103] : Bytes))).bind fun x15 =>
      bif (bif ((x11.2) != (0 : Int)) then true else ((IntKind.i64.wrap (((x11.1).length : Int) - (x13.length : Int))) != (IntKind.i64.wrap ((x2.length : Int) - (x15.length : Int))))) then
        some true
      else
        (frame_Answer x1 (x11.1) ([71, 69, 84] : Bytes)).bind fun x16 =>
        some (bif ((((x16.1).Kind) == ((x4.1).Kind)) && ((((x16.1).Size) == ((x4.1).Size)) && true)) then ((x16.2) == (x4.2)) else false)

noncomputable def table_Remove_1 (a0 : S_Field) (c0i : S_Field → Option Bool) : Option Bool :=
  (c0i a0).bind fun x1 =>
  some (!x1)

noncomputable def table_Remove (a0 : (List S_Field)) (a1 : Bytes) : Option (List S_Field) :=
  (table_named a1).bind fun x1 =>
  (table_keep_api_Field a0 (fun x0 => table_Remove_1 x0 (fun x0 => table_named_1 x0 x1))).bind fun x2 =>
  some x2

noncomputable def number_Dec (a0 : Int) : Option Bytes :=
  (strconv_FormatUint a0 (10 : Int)).bind fun x1 =>
  some x1

noncomputable def slices_Clip__api_Field_api_Field (a0 : (List S_Field)) : Option (List S_Field) :=
  (slc a0 0 (a0.length : Int)).bind fun x1 =>
  some x1

noncomputable def table_Add (a0 : (List S_Field)) (a1 : Bytes) (a2 : Bytes) : Option ((List S_Field) × Int) :=
  (table_Right a0).bind fun x1 =>
  (gcall (!(!x1)) (table_may (S_Field.mk a1 a2))).bind fun x2 =>
  bif (bif (!x1) then true else (!x2)) then
    some (([] : List S_Field), (1 : Int))
  else
    bif (decide ((a0.length : Int) ≥ (40 : Int))) then
      some (([] : List S_Field), (4 : Int))
    else
      (slices_Clip__api_Field_api_Field a0).bind fun x3 =>
      (app 32 x3 ([(S_Field.mk a1 a2)] : List S_Field)).bind fun x4 =>
      some (x4, (0 : Int))

noncomputable def frame_With (a0 : (List S_Field)) (a1 : S_Body) : Option ((List S_Field) × Int) :=
  (table_Right a0).bind fun x1 =>
  bif (bif (bif (bif (bif (!x1) then true else (decide ((a1.Size) < (0 : Int)))) then true else (decide ((a1.Size) > (20000 : Int)))) then true else (decide ((a1.Kind) < (0 : Int)))) then true else (decide ((a1.Kind) > (3 : Int)))) then
    some (([] : List S_Field), (1 : Int))
  else
    (table_Remove a0 ([67, 111, 110, 116, 101, 110, 116, 45, 76, 101, 110, 103, 116, 104] : Bytes)).bind fun x2 =>
    (table_Remove x2 ([84, 114, 97, 110, 115, 102, 101, 114, 45, 69, 110, 99, 111, 100, 105, 110, 103] : Bytes)).bind fun x3 =>
    bif ((a1.Kind) == (1 : Int)) then
      (number_Dec (IntKind.u64.wrap (a1.Size))).bind fun x4 =>
      (table_Add x3 ([67, 111, 110, 116, 101, 110, 116, 45, 76, 101, 110, 103, 116, 104] : Bytes) x4).bind fun x5 =>
      some ((x5.1), (x5.2))
    else
      bif ((a1.Kind) == (2 : Int)) then
        (table_Add x3 ([84, 114, 97, 110, 115, 102, 101, 114, 45, 69, 110, 99, 111, 100, 105, 110, 103] : Bytes) ([99, 104, 117, 110, 107, 101, 100] : Bytes)).bind fun x6 =>
        some ((x6.1), (x6.2))
      else
        some (x3, (0 : Int))

noncomputable def intarsiaref02_Digits_b1 (a1 : Int) (x : (Int × Bytes)) : Option ((Int × Bytes) ⊕ Bytes) :=
  match x with
  | (s2, s3) =>
    bif (bif (decide (s2 > (0 : Int))) then true else (s3 == ([] : Bytes))) then
      chk ((a1 == 0) = false ∧ IntKind.u64.wrap (s2.tmod a1) = s2.tmod a1) <|
      chk ((a1 == 0) = false ∧ IntKind.u64.wrap (s2.tmod a1) = s2.tmod a1) <|
      (slc ([48, 49, 50, 51, 52, 53, 54, 55, 56, 57, 97, 98, 99, 100, 101, 102] : Bytes) (s2.tmod a1) (IntKind.u64.wrap ((s2.tmod a1) + (1 : Int)))).bind fun x6 =>
      (cat x6 s3).bind fun x7 =>
      chk ((a1 == 0) = false) <|
      some (.inl ((IntKind.u64.wrap (s2.tdiv a1)), x7))
    else
      some (.inr s3)
noncomputable def intarsiaref02_Digits (a0 : Int) (a1 : Int) : Option Bytes :=
  (loopO (intarsiaref02_Digits_b1 a1) (a0, ([] : Bytes)) : Option Bytes).bind fun j1 =>
  some j1

noncomputable def intarsiaref09_With (a0 : (List S_Field)) (a1 : S_Body) : Option ((List S_Field) × Int) :=
  (intarsiaref04_Right a0).bind fun x1 =>
  bif (bif (bif (bif (bif (!x1) then true else (decide ((a1.Size) < (0 : Int)))) then true else (decide ((a1.Size) > (20000 : Int)))) then true else (decide ((a1.Kind) < (0 : Int)))) then true else (decide ((a1.Kind) > (3 : Int)))) then
    some (([] : List S_Field), (1 : Int))
  else
    (intarsiaref04_Remove a0 ([99, 111, 110, 116, 101, 110, 116, 45, 108, 101, 110, 103, 116, 104] : Bytes)).bind fun x2 =>
    (intarsiaref04_Remove x2 ([116, 114, 97, 110, 115, 102, 101, 114, 45, 101, 110, 99, 111, 100, 105, 110, 103] : Bytes)).bind fun x3 =>
    bif ((a1.Kind) == (1 : Int)) then
      (intarsiaref02_Digits (IntKind.u64.wrap (a1.Size)) (10 : Int)).bind fun x4 =>
      (intarsiaref04_Add x3 (S_Field.mk ([67, 111, 110, 116, 101, 110, 116, 45, 76, 101, 110, 103, 116, 104] : Bytes) x4)).bind fun x5 =>
      some ((x5.1), (x5.2))
    else
      bif ((a1.Kind) == (2 : Int)) then
        (intarsiaref04_Add x3 (S_Field.mk ([84, 114, 97, 110, 115, 102, 101, 114, 45, 69, 110, 99, 111, 100, 105, 110, 103] : Bytes) ([99, 104, 117, 110, 107, 101, 100] : Bytes))).bind fun x6 =>
        some ((x6.1), (x6.2))
      else
        some (x3, (0 : Int))

noncomputable def intarsiaref04_Like_b1 (a0 : (List S_Field)) (a1 : (List S_Field)) (s1 : Int) : Option (Int ⊕ Bool) :=
  bif (decide (s1 < (a0.length : Int))) then
    (idx a0 s1).bind fun x2 =>
    (idx a1 s1).bind fun x3 =>
    bif (!(((x2.Name) == (x3.Name)) && (((x2.Value) == (x3.Value)) && true))) then
      some (.inr false)
    else
      some (.inl (IntKind.i64.wrap (s1 + (1 : Int))))
  else
    some (.inr true)
noncomputable def intarsiaref04_Like (a0 : (List S_Field)) (a1 : (List S_Field)) : Option Bool :=
  bif ((a0.length : Int) != (a1.length : Int)) then
    some false
  else
    loopO (intarsiaref04_Like_b1 a0 a1) (0 : Int)

noncomputable def intarsialaw09_FrameWith (a0 : (List S_Field)) (a1 : S_Body) : Option Bool :=
  (intarsialaw09_few a0).bind fun x1 =>
  (frame_With x1 a1).bind fun x2 =>
  (intarsiaref09_With x1 a1).bind fun x3 =>
  (intarsialaw09_alive).bind fun x4 =>
  (gcall x4 (intarsiaref04_Like (x2.1) (x3.1))).bind fun x5 =>
  some (bif (bif x4 then x5 else false) then ((x2.2) == (x3.2)) else false)

noncomputable def intarsialaw09_FrameBack (a0 : S_Start) (a1 : (List S_Field)) (a2 : S_Body) : Option Bool :=
  (intarsialaw09_small a0).bind fun x1 =>
  (intarsialaw09_few a1).bind fun x2 =>
  (frame_With x2 a2).bind fun x3 =>
  bif ((x3.2) != (0 : Int)) then
    (intarsialaw09_alive).bind fun x4 =>
    some (bif x4 then (((x3.1).length : Int) == (0 : Int)) else false)
  else
    (intarsiaref04_Remove (x3.1) ([99, 111, 110, 116, 101, 110, 116, 45, 108, 101, 110, 103, 116, 104] : Bytes)).bind fun x5 =>
    (intarsiaref04_Remove x5 ([116, 114, 97, 110, 115, 102, 101, 114, 45, 101, 110, 99, 111, 100, 105, 110, 103] : Bytes)).bind fun x6 =>
    (intarsiaref04_Remove x2 ([99, 111, 110, 116, 101, 110, 116, 45, 108, 101, 110, 103, 116, 104] : Bytes)).bind fun x7 =>
    (intarsiaref04_Remove x7 ([116, 114, 97, 110, 115, 102, 101, 114, 45, 101, 110, 99, 111, 100, 105, 110, 103] : Bytes)).bind fun x8 =>
    (intarsiaref04_Like x6 x8).bind fun x9 =>
    (gcall (!(!x9)) (intarsialaw09_alive)).bind fun x10 =>
    bif (bif (!x9) then true else (!x10)) then
      some false
    else
      (intarsiaref06_Right x1).bind fun x11 =>
      bif (bif (!x11) then true else (bif ((a2.Kind) == (2 : Int)) then ((x1.Minor) == (0 : Int)) else false)) then
        some true
      else
        bif ((a2.Kind) == (1 : Int)) then
          bif ((x1.Code) == (0 : Int)) then
            bif ((a2.Kind) == (3 : Int)) then
              (frame_Request x1 (x3.1)).bind fun x12 =>
              some (bif ((x12.2) == (0 : Int)) then ((((x12.1).Kind) == (0 : Int)) && ((((x12.1).Size) == (0 : Int)) && true)) else false)
            else
              (frame_Request x1 (x3.1)).bind fun x13 =>
              some (bif ((x13.2) == (0 : Int)) then ((((x13.1).Kind) == (a2.Kind)) && ((((x13.1).Size) == (a2.Size)) && true)) else false)
          else
            (frame_Answer x1 (x3.1) ([71, 69, 84] : Bytes)).bind fun x14 =>
            bif (bif (bif (decide ((x1.Code) < (200 : Int))) then true else ((x1.Code) == (204 : Int))) then true else ((x1.Code) == (304 : Int))) then
              some (bif ((x14.2) == (0 : Int)) then ((((x14.1).Kind) == (0 : Int)) && ((((x14.1).Size) == (0 : Int)) && true)) else false)
            else
              bif ((a2.Kind) == (0 : Int)) then
                some (bif ((x14.2) == (0 : Int)) then ((((x14.1).Kind) == (3 : Int)) && ((((x14.1).Size) == (0 : Int)) && true)) else false)
              else
                some (bif ((x14.2) == (0 : Int)) then ((((x14.1).Kind) == (a2.Kind)) && ((((x14.1).Size) == (a2.Size)) && true)) else false)
        else
          bif ((x1.Code) == (0 : Int)) then
            bif ((a2.Kind) == (3 : Int)) then
              (frame_Request x1 (x3.1)).bind fun x15 =>
              some (bif ((x15.2) == (0 : Int)) then ((((x15.1).Kind) == (0 : Int)) && ((((x15.1).Size) == (0 : Int)) && true)) else false)
            else
              (frame_Request x1 (x3.1)).bind fun x16 =>
              some (bif ((x16.2) == (0 : Int)) then ((((x16.1).Kind) == (a2.Kind)) && ((((x16.1).Size) == (0 : Int)) && true)) else false)
          else
            (frame_Answer x1 (x3.1) ([71, 69, 84] : Bytes)).bind fun x17 =>
            bif (bif (bif (decide ((x1.Code) < (200 : Int))) then true else ((x1.Code) == (204 : Int))) then true else ((x1.Code) == (304 : Int))) then
              some (bif ((x17.2) == (0 : Int)) then ((((x17.1).Kind) == (0 : Int)) && ((((x17.1).Size) == (0 : Int)) && true)) else false)
            else
              bif ((a2.Kind) == (0 : Int)) then
                some (bif ((x17.2) == (0 : Int)) then ((((x17.1).Kind) == (3 : Int)) && ((((x17.1).Size) == (0 : Int)) && true)) else false)
              else
                some (bif ((x17.2) == (0 : Int)) then ((((x17.1).Kind) == (a2.Kind)) && ((((x17.1).Size) == (0 : Int)) && true)) else false)

noncomputable def intarsialaw06_few (a0 : S_Start) : Option S_Start :=
  (slc (a0.Method) 0 (imin ((a0.Method).length : Int) (40 : Int))).bind fun x1 =>
  (slc (a0.Target) 0 (imin ((a0.Target).length : Int) (520 : Int))).bind fun x2 =>
  (slc (a0.Reason) 0 (imin ((a0.Reason).length : Int) (120 : Int))).bind fun x3 =>
  some (S_Start.mk x1 x2 (a0.Code) x3 (a0.Minor))

noncomputable def start_Print (a0 : S_Start) : Option (Bytes × Int) :=
  (start_Right a0).bind fun x1 =>
  bif (!x1) then
    some (([] : Bytes), (1 : Int))
  else
    (number_Dec (IntKind.u64.wrap (a0.Minor))).bind fun x2 =>
    (cat ([72, 84, 84, 80, 47, 49, 46] : Bytes) x2).bind fun x3 =>
    bif ((a0.Code) == (0 : Int)) then
      (strings_Join ([(a0.Method), (a0.Target), x3] : List Bytes) ([32] : Bytes)).bind fun x4 =>
      some (x4, (0 : Int))
    else
      (number_Dec (IntKind.u64.wrap (a0.Code))).bind fun x5 =>
      (strings_Join ([x3, x5, (a0.Reason)] : List Bytes) ([32] : Bytes)).bind fun x6 =>
      some (x6, (0 : Int))

noncomputable def start_minor (a0 : Bytes) : Option Int :=
  bif (a0 == ([72, 84, 84, 80, 47, 49, 46, 48] : Bytes)) then
    some (0 : Int)
  else
    bif (a0 == ([72, 84, 84, 80, 47, 49, 46, 49] : Bytes)) then
      some (1 : Int)
    else
      some (2 : Int)

noncomputable def start_Parse (a0 : Bytes) : Option (S_Start × Int) :=
  (strings_Split a0 ([32] : Bytes)).bind fun x1 =>
  bif ((x1.length : Int) != (3 : Int)) then
    some ((S_Start.mk ([] : Bytes) ([] : Bytes) (0 : Int) ([] : Bytes) (0 : Int)), (30 : Int))
  else
    (idx x1 (0 : Int)).bind fun x2 =>
    (idx x1 (1 : Int)).bind fun x3 =>
    (idx x1 (2 : Int)).bind fun x4 =>
    (start_minor x4).bind fun x5 =>
    (start_Right (S_Start.mk x2 x3 (0 : Int) ([] : Bytes) x5)).bind fun x6 =>
    bif (!x6) then
      some ((S_Start.mk ([] : Bytes) ([] : Bytes) (0 : Int) ([] : Bytes) (0 : Int)), (30 : Int))
    else
      some ((S_Start.mk x2 x3 (0 : Int) ([] : Bytes) x5), (0 : Int))

noncomputable def start_Status (a0 : Bytes) : Option (S_Start × Int) :=
  (strings_SplitN a0 ([32] : Bytes) (3 : Int)).bind fun x1 =>
  (gidx (!(decide ((x1.length : Int) < (2 : Int)))) x1 (1 : Int)).bind fun x2 =>
  bif (bif (decide ((x1.length : Int) < (2 : Int))) then true else ((x2.length : Int) != (3 : Int))) then
    some ((S_Start.mk ([] : Bytes) ([] : Bytes) (0 : Int) ([] : Bytes) (0 : Int)), (30 : Int))
  else
    (idx x1 (1 : Int)).bind fun x3 =>
    (number_ReadDec x3).bind fun x4 =>
    (idx x1 (0 : Int)).bind fun x5 =>
    (start_minor x5).bind fun x6 =>
    bif ((x1.length : Int) == (3 : Int)) then
      (idx x1 (2 : Int)).bind fun x7 =>
      (gcall (!(bif ((x4.2) != (0 : Int)) then true else ((x4.1) == (0 : Int)))) (start_Right (S_Start.mk ([] : Bytes) ([] : Bytes) (IntKind.i64.wrap (x4.1)) x7 x6))).bind fun x8 =>
      bif (bif (bif ((x4.2) != (0 : Int)) then true else ((x4.1) == (0 : Int))) then true else (!x8)) then
        some ((S_Start.mk ([] : Bytes) ([] : Bytes) (0 : Int) ([] : Bytes) (0 : Int)), (30 : Int))
      else
        some ((S_Start.mk ([] : Bytes) ([] : Bytes) (IntKind.i64.wrap (x4.1)) x7 x6), (0 : Int))
    else
      (gcall (!(bif ((x4.2) != (0 : Int)) then true else ((x4.1) == (0 : Int)))) (start_Right (S_Start.mk ([] : Bytes) ([] : Bytes) (IntKind.i64.wrap (x4.1)) ([] : Bytes) x6))).bind fun x9 =>
      bif (bif (bif ((x4.2) != (0 : Int)) then true else ((x4.1) == (0 : Int))) then true else (!x9)) then
        some ((S_Start.mk ([] : Bytes) ([] : Bytes) (0 : Int) ([] : Bytes) (0 : Int)), (30 : Int))
      else
        some ((S_Start.mk ([] : Bytes) ([] : Bytes) (IntKind.i64.wrap (x4.1)) ([] : Bytes) x6), (0 : Int))

noncomputable def disp_50 (n : Nat) (x0 : Bytes) : Option (S_Start × Int) :=
  bif n == 26 then start_Parse x0 else bif n == 27 then start_Status x0 else none

noncomputable def intarsialaw06_alive : Option Bool :=
  (start_Parse ([71, 69, 84, 32, 47, 120, 32, 72, 84, 84, 80, 47, 49, 46, 49] : Bytes)).bind fun x1 =>
  some (bif ((x1.2) == (0 : Int)) then ((((x1.1).Method) == ([71, 69, 84] : Bytes)) && ((((x1.1).Target) == ([47, 120] : Bytes)) && ((((x1.1).Code) == (0 : Int)) && ((((x1.1).Reason) == ([] : Bytes)) && ((((x1.1).Minor) == (1 : Int)) && true))))) else false)

noncomputable def intarsialaw06_StartBack_b1 (x2 : Bytes) (s6 : Int) : Option (Int ⊕ Bool) :=
  bif (decide (s6 < (([(26 : Nat), (27 : Nat)] : List Nat).length : Int))) then
    (idx ([(26 : Nat), (27 : Nat)] : List Nat) s6).bind fun x7 =>
    (disp_50 x7 x2).bind fun x8 =>
    bif ((x8.2) != (0 : Int)) then
      some (.inl (IntKind.i64.wrap (s6 + (1 : Int))))
    else
      (start_Print (x8.1)).bind fun x9 =>
      (disp_50 x7 (x9.1)).bind fun x10 =>
      (gcall (!(bif (bif ((x9.2) != (0 : Int)) then true else ((x10.2) != (0 : Int))) then true else (!((((x8.1).Method) == ((x10.1).Method)) && ((((x8.1).Target) == ((x10.1).Target)) && ((((x8.1).Code) == ((x10.1).Code)) && ((((x8.1).Reason) == ((x10.1).Reason)) && ((((x8.1).Minor) == ((x10.1).Minor)) && true)))))))) (start_Right (x8.1))).bind fun x11 =>
      bif (bif (bif (bif ((x9.2) != (0 : Int)) then true else ((x10.2) != (0 : Int))) then true else (!((((x8.1).Method) == ((x10.1).Method)) && ((((x8.1).Target) == ((x10.1).Target)) && ((((x8.1).Code) == ((x10.1).Code)) && ((((x8.1).Reason) == ((x10.1).Reason)) && ((((x8.1).Minor) == ((x10.1).Minor)) && true))))))) then true else (!x11)) then
        some (.inr false)
      else
        some (.inl (IntKind.i64.wrap (s6 + (1 : Int))))
  else
    (intarsialaw06_alive).bind fun x12 =>
    some (.inr x12)
noncomputable def intarsialaw06_StartBack_b2 (x2 : Bytes) (s13 : Int) : Option (Int ⊕ Bool) :=
  bif (decide (s13 < (([(26 : Nat), (27 : Nat)] : List Nat).length : Int))) then
    (idx ([(26 : Nat), (27 : Nat)] : List Nat) s13).bind fun x14 =>
    (disp_50 x14 x2).bind fun x15 =>
    bif ((x15.2) != (0 : Int)) then
      some (.inl (IntKind.i64.wrap (s13 + (1 : Int))))
    else
      (start_Print (x15.1)).bind fun x16 =>
      (disp_50 x14 (x16.1)).bind fun x17 =>
      (gcall (!(bif (bif ((x16.2) != (0 : Int)) then true else ((x17.2) != (0 : Int))) then true else (!((((x15.1).Method) == ((x17.1).Method)) && ((((x15.1).Target) == ((x17.1).Target)) && ((((x15.1).Code) == ((x17.1).Code)) && ((((x15.1).Reason) == ((x17.1).Reason)) && ((((x15.1).Minor) == ((x17.1).Minor)) && true)))))))) (start_Right (x15.1))).bind fun x18 =>
      bif (bif (bif (bif ((x16.2) != (0 : Int)) then true else ((x17.2) != (0 : Int))) then true else (!((((x15.1).Method) == ((x17.1).Method)) && ((((x15.1).Target) == ((x17.1).Target)) && ((((x15.1).Code) == ((x17.1).Code)) && ((((x15.1).Reason) == ((x17.1).Reason)) && ((((x15.1).Minor) == ((x17.1).Minor)) && true))))))) then true else (!x18)) then
        some (.inr false)
      else
        some (.inl (IntKind.i64.wrap (s13 + (1 : Int))))
  else
    (intarsialaw06_alive).bind fun x19 =>
    some (.inr x19)
noncomputable def intarsialaw06_StartBack (a0 : S_Start) (a1 : Bytes) : Option Bool :=
  (intarsialaw06_few a0).bind fun x1 =>
  (slc a1 0 (imin (a1.length : Int) (600 : Int))).bind fun x2 =>
  (start_Print x1).bind fun x3 =>
  bif ((x3.2) == (0 : Int)) then
    (start_Parse (x3.1)).bind fun x4 =>
    (start_Status (x3.1)).bind fun x5 =>
    bif (bif (bif ((x1.Code) == (0 : Int)) then (bif (bif ((x4.2) != (0 : Int)) then true else (!((((x4.1).Method) == (x1.Method)) && ((((x4.1).Target) == (x1.Target)) && ((((x4.1).Code) == (x1.Code)) && ((((x4.1).Reason) == (x1.Reason)) && ((((x4.1).Minor) == (x1.Minor)) && true))))))) then true else ((x5.2) != (30 : Int))) else false) then true else (bif ((x1.Code) != (0 : Int)) then (bif (bif ((x5.2) != (0 : Int)) then true else (!((((x5.1).Method) == (x1.Method)) && ((((x5.1).Target) == (x1.Target)) && ((((x5.1).Code) == (x1.Code)) && ((((x5.1).Reason) == (x1.Reason)) && ((((x5.1).Minor) == (x1.Minor)) && true))))))) then true else ((x4.2) != (30 : Int))) else false)) then
      some false
    else
      loopO (intarsialaw06_StartBack_b1 x2) (0 : Int)
  else
    loopO (intarsialaw06_StartBack_b2 x2) (0 : Int)

noncomputable def intarsiaref06_cut_b1 (a0 : Bytes) (s1 : Int) : Option (Int ⊕ (Bytes × Bytes × Bool)) :=
  bif (decide (s1 < (a0.length : Int))) then
    (idx a0 s1).bind fun x2 =>
    bif ((x2.toNat : Int) == (32 : Int)) then
      (slc a0 0 s1).bind fun x3 =>
      (slc a0 (IntKind.i64.wrap (s1 + (1 : Int))) (a0.length : Int)).bind fun x4 =>
      some (.inr (x3, x4, true))
    else
      some (.inl (IntKind.i64.wrap (s1 + (1 : Int))))
  else
    some (.inr (a0, ([] : Bytes), false))
noncomputable def intarsiaref06_cut (a0 : Bytes) : Option (Bytes × Bytes × Bool) :=
  loopO (intarsiaref06_cut_b1 a0) (0 : Int)

noncomputable def intarsiaref06_Print (a0 : S_Start) : Option Bytes :=
  (intarsiaref02_Digits (IntKind.u64.wrap (a0.Minor)) (10 : Int)).bind fun x1 =>
  (cat ([72, 84, 84, 80, 47, 49, 46] : Bytes) x1).bind fun x2 =>
  bif ((a0.Code) == (0 : Int)) then
    (cat (a0.Method) ([32] : Bytes)).bind fun x3 =>
    (cat x3 (a0.Target)).bind fun x4 =>
    (cat x4 ([32] : Bytes)).bind fun x5 =>
    (cat x5 x2).bind fun x6 =>
    some x6
  else
    (cat x2 ([32] : Bytes)).bind fun x7 =>
    (intarsiaref02_Digits (IntKind.u64.wrap (a0.Code)) (10 : Int)).bind fun x8 =>
    (cat x7 x8).bind fun x9 =>
    (cat x9 ([32] : Bytes)).bind fun x10 =>
    (cat x10 (a0.Reason)).bind fun x11 =>
    some x11

noncomputable def intarsiaref06_Parse (a0 : Bytes) : Option (S_Start × Int) :=
  (intarsiaref06_cut a0).bind fun x1 =>
  (intarsiaref06_cut (x1.2.1)).bind fun x2 =>
  bif (x2.2.1 == ([72, 84, 84, 80, 47, 49, 46, 49] : Bytes)) then
    (intarsiaref06_Right (S_Start.mk (x1.1) (x2.1) (0 : Int) ([] : Bytes) (1 : Int))).bind fun x3 =>
    (gcall (!(!x3)) (intarsiaref06_Print (S_Start.mk (x1.1) (x2.1) (0 : Int) ([] : Bytes) (1 : Int)))).bind fun x4 =>
    bif (bif (!x3) then true else (!(x4 == a0))) then
      some ((S_Start.mk ([] : Bytes) ([] : Bytes) (0 : Int) ([] : Bytes) (0 : Int)), (30 : Int))
    else
      some ((S_Start.mk (x1.1) (x2.1) (0 : Int) ([] : Bytes) (1 : Int)), (0 : Int))
  else
    (intarsiaref06_Right (S_Start.mk (x1.1) (x2.1) (0 : Int) ([] : Bytes) (0 : Int))).bind fun x5 =>
    (gcall (!(!x5)) (intarsiaref06_Print (S_Start.mk (x1.1) (x2.1) (0 : Int) ([] : Bytes) (0 : Int)))).bind fun x6 =>
    bif (bif (!x5) then true else (!(x6 == a0))) then
      some ((S_Start.mk ([] : Bytes) ([] : Bytes) (0 : Int) ([] : Bytes) (0 : Int)), (30 : Int))
    else
      some ((S_Start.mk (x1.1) (x2.1) (0 : Int) ([] : Bytes) (0 : Int)), (0 : Int))

noncomputable def intarsiaref06_Status (a0 : Bytes) : Option (S_Start × Int) :=
  (intarsiaref06_cut a0).bind fun x1 =>
  (intarsiaref06_cut (x1.2.1)).bind fun x2 =>
  (intarsiaref02_Read (x2.1) (10 : Int)).bind fun x3 =>
  bif (x1.1 == ([72, 84, 84, 80, 47, 49, 46, 49] : Bytes)) then
    bif (!(x2.2.2)) then
      (cat a0 ([32] : Bytes)).bind fun x4 =>
      (gcall (!((x3.1) == (0 : Int))) (intarsiaref06_Right (S_Start.mk ([] : Bytes) ([] : Bytes) (IntKind.i64.wrap (x3.1)) (x2.2.1) (1 : Int)))).bind fun x5 =>
      (gcall (!(bif ((x3.1) == (0 : Int)) then true else (!x5))) (intarsiaref06_Print (S_Start.mk ([] : Bytes) ([] : Bytes) (IntKind.i64.wrap (x3.1)) (x2.2.1) (1 : Int)))).bind fun x6 =>
      bif (bif (bif ((x3.1) == (0 : Int)) then true else (!x5)) then true else (!(x6 == x4))) then
        some ((S_Start.mk ([] : Bytes) ([] : Bytes) (0 : Int) ([] : Bytes) (0 : Int)), (30 : Int))
      else
        some ((S_Start.mk ([] : Bytes) ([] : Bytes) (IntKind.i64.wrap (x3.1)) (x2.2.1) (1 : Int)), (0 : Int))
    else
      (gcall (!((x3.1) == (0 : Int))) (intarsiaref06_Right (S_Start.mk ([] : Bytes) ([] : Bytes) (IntKind.i64.wrap (x3.1)) (x2.2.1) (1 : Int)))).bind fun x7 =>
      (gcall (!(bif ((x3.1) == (0 : Int)) then true else (!x7))) (intarsiaref06_Print (S_Start.mk ([] : Bytes) ([] : Bytes) (IntKind.i64.wrap (x3.1)) (x2.2.1) (1 : Int)))).bind fun x8 =>
      bif (bif (bif ((x3.1) == (0 : Int)) then true else (!x7)) then true else (!(x8 == a0))) then
        some ((S_Start.mk ([] : Bytes) ([] : Bytes) (0 : Int) ([] : Bytes) (0 : Int)), (30 : Int))
      else
        some ((S_Start.mk ([] : Bytes) ([] : Bytes) (IntKind.i64.wrap (x3.1)) (x2.2.1) (1 : Int)), (0 : Int))
  else
    bif (!(x2.2.2)) then
      (cat a0 ([32] : Bytes)).bind fun x9 =>
      (gcall (!((x3.1) == (0 : Int))) (intarsiaref06_Right (S_Start.mk ([] : Bytes) ([] : Bytes) (IntKind.i64.wrap (x3.1)) (x2.2.1) (0 : Int)))).bind fun x10 =>
      (gcall (!(bif ((x3.1) == (0 : Int)) then true else (!x10))) (intarsiaref06_Print (S_Start.mk ([] : Bytes) ([] : Bytes) (IntKind.i64.wrap (x3.1)) (x2.2.1) (0 : Int)))).bind fun x11 =>
      bif (bif (bif ((x3.1) == (0 : Int)) then true else (!x10)) then true else (!(x11 == x9))) then
        some ((S_Start.mk ([] : Bytes) ([] : Bytes) (0 : Int) ([] : Bytes) (0 : Int)), (30 : Int))
      else
        some ((S_Start.mk ([] : Bytes) ([] : Bytes) (IntKind.i64.wrap (x3.1)) (x2.2.1) (0 : Int)), (0 : Int))
    else
      (gcall (!((x3.1) == (0 : Int))) (intarsiaref06_Right (S_Start.mk ([] : Bytes) ([] : Bytes) (IntKind.i64.wrap (x3.1)) (x2.2.1) (0 : Int)))).bind fun x12 =>
      (gcall (!(bif ((x3.1) == (0 : Int)) then true else (!x12))) (intarsiaref06_Print (S_Start.mk ([] : Bytes) ([] : Bytes) (IntKind.i64.wrap (x3.1)) (x2.2.1) (0 : Int)))).bind fun x13 =>
      bif (bif (bif ((x3.1) == (0 : Int)) then true else (!x12)) then true else (!(x13 == a0))) then
        some ((S_Start.mk ([] : Bytes) ([] : Bytes) (0 : Int) ([] : Bytes) (0 : Int)), (30 : Int))
      else
        some ((S_Start.mk ([] : Bytes) ([] : Bytes) (IntKind.i64.wrap (x3.1)) (x2.2.1) (0 : Int)), (0 : Int))

noncomputable def start_Reason (a0 : Int) : Option Bytes :=
  bif (!(mhas (mins (mins (mins (mins (mins (mins (mins (mins (mins ([] : List (Int × Bytes)) (200 : Int) ([79, 75] : Bytes)) (304 : Int) ([78, 111, 116, 32, 77, 111, 100, 105, 102, 105, 101, 100] : Bytes)) (400 : Int) ([66, 97, 100, 32, 82, 101, 113, 117, 101, 115, 116] : Bytes)) (404 : Int) ([78, 111, 116, 32, 70, 111, 117, 110, 100] : Bytes)) (413 : Int) ([84, 111, 111, 32, 76, 97, 114, 103, 101] : Bytes)) (431 : Int) ([70, 105, 101, 108, 100, 115, 32, 84, 111, 111, 32, 76, 97, 114, 103, 101] : Bytes)) (500 : Int) ([73, 110, 116, 101, 114, 110, 97, 108, 32, 69, 114, 114, 111, 114] : Bytes)) (502 : Int) ([66, 97, 100, 32, 71, 97, 116, 101, 119, 97, 121] : Bytes)) (504 : Int) ([71, 97, 116, 101, 119, 97, 121, 32, 84, 105, 109, 101, 111, 117, 116] : Bytes)) a0)) then
    some ([85, 110, 107, 110, 111, 119, 110] : Bytes)
  else
    some (mget ([] : Bytes) (mins (mins (mins (mins (mins (mins (mins (mins (mins ([] : List (Int × Bytes)) (200 : Int) ([79, 75] : Bytes)) (304 : Int) ([78, 111, 116, 32, 77, 111, 100, 105, 102, 105, 101, 100] : Bytes)) (400 : Int) ([66, 97, 100, 32, 82, 101, 113, 117, 101, 115, 116] : Bytes)) (404 : Int) ([78, 111, 116, 32, 70, 111, 117, 110, 100] : Bytes)) (413 : Int) ([84, 111, 111, 32, 76, 97, 114, 103, 101] : Bytes)) (431 : Int) ([70, 105, 101, 108, 100, 115, 32, 84, 111, 111, 32, 76, 97, 114, 103, 101] : Bytes)) (500 : Int) ([73, 110, 116, 101, 114, 110, 97, 108, 32, 69, 114, 114, 111, 114] : Bytes)) (502 : Int) ([66, 97, 100, 32, 71, 97, 116, 101, 119, 97, 121] : Bytes)) (504 : Int) ([71, 97, 116, 101, 119, 97, 121, 32, 84, 105, 109, 101, 111, 117, 116] : Bytes)) a0)

noncomputable def intarsiaref06_Reason_b1 (a0 : Int) (s1 : Int) : Option (Int ⊕ Bytes) :=
  bif (decide (s1 < (([(200 : Int), (304 : Int), (400 : Int), (404 : Int), (413 : Int), (431 : Int), (500 : Int), (502 : Int), (504 : Int)] : List Int).length : Int))) then
    (idx ([(200 : Int), (304 : Int), (400 : Int), (404 : Int), (413 : Int), (431 : Int), (500 : Int), (502 : Int), (504 : Int)] : List Int) s1).bind fun x2 =>
    bif (x2 == a0) then
      (idx ([([79, 75] : Bytes), ([78, 111, 116, 32, 77, 111, 100, 105, 102, 105, 101, 100] : Bytes), ([66, 97, 100, 32, 82, 101, 113, 117, 101, 115, 116] : Bytes), ([78, 111, 116, 32, 70, 111, 117, 110, 100] : Bytes), ([84, 111, 111, 32, 76, 97, 114, 103, 101] : Bytes), ([70, 105, 101, 108, 100, 115, 32, 84, 111, 111, 32, 76, 97, 114, 103, 101] : Bytes), ([73, 110, 116, 101, 114, 110, 97, 108, 32, 69, 114, 114, 111, 114] : Bytes), ([66, 97, 100, 32, 71, 97, 116, 101, 119, 97, 121] : Bytes), ([71, 97, 116, 101, 119, 97, 121, 32, 84, 105, 109, 101, 111, 117, 116] : Bytes)] : List Bytes) s1).bind fun x3 =>
      some (.inr x3)
    else
      some (.inl (IntKind.i64.wrap (s1 + (1 : Int))))
  else
    some (.inr ([85, 110, 107, 110, 111, 119, 110] : Bytes))
noncomputable def intarsiaref06_Reason (a0 : Int) : Option Bytes :=
  loopO (intarsiaref06_Reason_b1 a0) (0 : Int)

noncomputable def intarsialaw06_StartReads (a0 : S_Start) (a1 : Bytes) (a2 : Int) : Option Bool :=
  (intarsialaw06_few a0).bind fun x1 =>
  (slc a1 0 (imin (a1.length : Int) (600 : Int))).bind fun x2 =>
  (start_Print x1).bind fun x3 =>
  (start_Parse x2).bind fun x4 =>
  (intarsiaref06_Parse x2).bind fun x5 =>
  (start_Status x2).bind fun x6 =>
  (intarsiaref06_Status x2).bind fun x7 =>
  (gcall (!(bif (bif (bif (!((((x4.1).Method) == ((x5.1).Method)) && ((((x4.1).Target) == ((x5.1).Target)) && ((((x4.1).Code) == ((x5.1).Code)) && ((((x4.1).Reason) == ((x5.1).Reason)) && ((((x4.1).Minor) == ((x5.1).Minor)) && true)))))) then true else ((x4.2) != (x5.2))) then true else (!((((x6.1).Method) == ((x7.1).Method)) && ((((x6.1).Target) == ((x7.1).Target)) && ((((x6.1).Code) == ((x7.1).Code)) && ((((x6.1).Reason) == ((x7.1).Reason)) && ((((x6.1).Minor) == ((x7.1).Minor)) && true))))))) then true else ((x6.2) != (x7.2)))) (start_Right x1)).bind fun x8 =>
  (gcall (!(bif (bif (bif (!((((x4.1).Method) == ((x5.1).Method)) && ((((x4.1).Target) == ((x5.1).Target)) && ((((x4.1).Code) == ((x5.1).Code)) && ((((x4.1).Reason) == ((x5.1).Reason)) && ((((x4.1).Minor) == ((x5.1).Minor)) && true)))))) then true else ((x4.2) != (x5.2))) then true else (!((((x6.1).Method) == ((x7.1).Method)) && ((((x6.1).Target) == ((x7.1).Target)) && ((((x6.1).Code) == ((x7.1).Code)) && ((((x6.1).Reason) == ((x7.1).Reason)) && ((((x6.1).Minor) == ((x7.1).Minor)) && true))))))) then true else ((x6.2) != (x7.2)))) (intarsiaref06_Right x1)).bind fun x9 =>
  (gcall (!(bif (bif (bif (bif (!((((x4.1).Method) == ((x5.1).Method)) && ((((x4.1).Target) == ((x5.1).Target)) && ((((x4.1).Code) == ((x5.1).Code)) && ((((x4.1).Reason) == ((x5.1).Reason)) && ((((x4.1).Minor) == ((x5.1).Minor)) && true)))))) then true else ((x4.2) != (x5.2))) then true else (!((((x6.1).Method) == ((x7.1).Method)) && ((((x6.1).Target) == ((x7.1).Target)) && ((((x6.1).Code) == ((x7.1).Code)) && ((((x6.1).Reason) == ((x7.1).Reason)) && ((((x6.1).Minor) == ((x7.1).Minor)) && true))))))) then true else ((x6.2) != (x7.2))) then true else (!(x8 == x9)))) (start_Reason a2)).bind fun x10 =>
  (gcall (!(bif (bif (bif (bif (!((((x4.1).Method) == ((x5.1).Method)) && ((((x4.1).Target) == ((x5.1).Target)) && ((((x4.1).Code) == ((x5.1).Code)) && ((((x4.1).Reason) == ((x5.1).Reason)) && ((((x4.1).Minor) == ((x5.1).Minor)) && true)))))) then true else ((x4.2) != (x5.2))) then true else (!((((x6.1).Method) == ((x7.1).Method)) && ((((x6.1).Target) == ((x7.1).Target)) && ((((x6.1).Code) == ((x7.1).Code)) && ((((x6.1).Reason) == ((x7.1).Reason)) && ((((x6.1).Minor) == ((x7.1).Minor)) && true))))))) then true else ((x6.2) != (x7.2))) then true else (!(x8 == x9)))) (intarsiaref06_Reason a2)).bind fun x11 =>
  (gcall (!(bif (bif (bif (bif (bif (!((((x4.1).Method) == ((x5.1).Method)) && ((((x4.1).Target) == ((x5.1).Target)) && ((((x4.1).Code) == ((x5.1).Code)) && ((((x4.1).Reason) == ((x5.1).Reason)) && ((((x4.1).Minor) == ((x5.1).Minor)) && true)))))) then true else ((x4.2) != (x5.2))) then true else (!((((x6.1).Method) == ((x7.1).Method)) && ((((x6.1).Target) == ((x7.1).Target)) && ((((x6.1).Code) == ((x7.1).Code)) && ((((x6.1).Reason) == ((x7.1).Reason)) && ((((x6.1).Minor) == ((x7.1).Minor)) && true))))))) then true else ((x6.2) != (x7.2))) then true else (!(x8 == x9))) then true else (!(x10 == x11)))) (intarsialaw06_alive)).bind fun x12 =>
  bif (bif (bif (bif (bif (bif (bif (!((((x4.1).Method) == ((x5.1).Method)) && ((((x4.1).Target) == ((x5.1).Target)) && ((((x4.1).Code) == ((x5.1).Code)) && ((((x4.1).Reason) == ((x5.1).Reason)) && ((((x4.1).Minor) == ((x5.1).Minor)) && true)))))) then true else ((x4.2) != (x5.2))) then true else (!((((x6.1).Method) == ((x7.1).Method)) && ((((x6.1).Target) == ((x7.1).Target)) && ((((x6.1).Code) == ((x7.1).Code)) && ((((x6.1).Reason) == ((x7.1).Reason)) && ((((x6.1).Minor) == ((x7.1).Minor)) && true))))))) then true else ((x6.2) != (x7.2))) then true else (!(x8 == x9))) then true else (!(x10 == x11))) then true else (!x12)) then
    some false
  else
    (intarsiaref06_Right x1).bind fun x13 =>
    bif (!x13) then
      some (bif ((x3.2) == (1 : Int)) then (x3.1 == ([] : Bytes)) else false)
    else
      (gcall ((x3.2) == (0 : Int)) (intarsiaref06_Print x1)).bind fun x14 =>
      some (bif ((x3.2) == (0 : Int)) then (x3.1 == x14) else false)

noncomputable def intarsialaw06_StartTold (a0 : Bytes) (a1 : Int) : Option Bool :=
  (slc a0 0 (imin (a0.length : Int) (600 : Int))).bind fun x1 =>
  (start_Parse x1).bind fun x2 =>
  (start_Status x1).bind fun x3 =>
  bif (bif ((x2.2) == (0 : Int)) then (bif (bif ((x3.2) == (0 : Int)) then true else (((x2.1).Code) != (0 : Int))) then true else ((IntKind.i64.wrap ((IntKind.i64.wrap ((((x2.1).Method).length : Int) + (((x2.1).Target).length : Int))) + (10 : Int))) != (x1.length : Int))) else false) then
    some false
  else
    (gslc ((x3.2) == (0 : Int)) x1 0 (7 : Int)).bind fun x4 =>
    bif (bif ((x3.2) == (0 : Int)) then (bif (bif (bif (bif (!(x4 == ([72, 84, 84, 80, 47, 49, 46] : Bytes))) then true else (decide (((x3.1).Code) < (100 : Int)))) then true else (decide (((x3.1).Code) > (599 : Int)))) then true else (!((x3.1).Method == ([] : Bytes)))) then true else (!((x3.1).Target == ([] : Bytes)))) else false) then
      some false
    else
      chk (((500 : Int) == 0) = false ∧ IntKind.i64.wrap (a1.tmod (500 : Int)) = a1.tmod (500 : Int)) <|
      chk (((500 : Int) == 0) = false ∧ IntKind.i64.wrap ((IntKind.i64.wrap ((a1.tmod (500 : Int)) + (500 : Int))).tmod (500 : Int)) = (IntKind.i64.wrap ((a1.tmod (500 : Int)) + (500 : Int))).tmod (500 : Int)) <|
      (start_Reason (IntKind.i64.wrap ((100 : Int) + ((IntKind.i64.wrap ((a1.tmod (500 : Int)) + (500 : Int))).tmod (500 : Int))))).bind fun x7 =>
      (start_Print (S_Start.mk ([] : Bytes) ([] : Bytes) (IntKind.i64.wrap ((100 : Int) + ((IntKind.i64.wrap ((a1.tmod (500 : Int)) + (500 : Int))).tmod (500 : Int)))) x7 (1 : Int))).bind fun x8 =>
      (start_Status (x8.1)).bind fun x9 =>
      (intarsialaw06_alive).bind fun x10 =>
      some (bif (bif (bif x10 then ((x8.2) == (0 : Int)) else false) then ((x9.2) == (0 : Int)) else false) then ((((x9.1).Method) == ([] : Bytes)) && ((((x9.1).Target) == ([] : Bytes)) && ((((x9.1).Code) == (IntKind.i64.wrap ((100 : Int) + ((IntKind.i64.wrap ((a1.tmod (500 : Int)) + (500 : Int))).tmod (500 : Int))))) && ((((x9.1).Reason) == x7) && ((((x9.1).Minor) == (1 : Int)) && true))))) else false)

end Go.Proofs.YtbgldnleackgeaaDoor
