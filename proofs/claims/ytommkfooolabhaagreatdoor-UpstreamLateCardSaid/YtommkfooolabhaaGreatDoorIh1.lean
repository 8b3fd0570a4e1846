/-
  The plain images of the functions, written by a program of mine (gen.py) off the translation.
-/
import Derived.Test.YtommkfooolabhaaGreatDoorGi1
namespace Go.Proofs.YtommkfooolabhaaGreatDoor
open Go Go.Pm
set_option linter.unusedSimpArgs false
set_option linter.unusedVariables false
structure S_Field where
 Name : Bytes
 Value : Bytes
instance : Inhabited S_Field := ⟨⟨default, default⟩⟩
def S_Field.cells (x : S_Field) : List AV := [AV.str x.Name, AV.str x.Value]
def S_Field.av (x : S_Field) : AV := .agg (S_Field.cells x)
noncomputable def stringslite_HasSuffix (a0 : Bytes) (a1 : Bytes) : Option Bool :=
 (gslc (decide ((a0.length : Int) ≥ (a1.length : Int))) a0 (IntKind.i64.wrap ((a0.length : Int) - (a1.length : Int))) (a0.length : Int)).bind fun x1 =>
 some (bif (decide ((a0.length : Int) ≥ (a1.length : Int))) then (x1 == a1) else false)
noncomputable def stringslite_TrimSuffix (a0 : Bytes) (a1 : Bytes) : Option Bytes :=
 (stringslite_HasSuffix a0 a1).bind fun x1 =>
 bif x1 then
  (slc a0 0 (IntKind.i64.wrap ((a0.length : Int) - (a1.length : Int)))).bind fun x2 =>
  some x2
 else
  some a0
noncomputable def strings_TrimSuffix (a0 : Bytes) (a1 : Bytes) : Option Bytes :=
 (stringslite_TrimSuffix a0 a1).bind fun x1 =>
 some x1
noncomputable def stringslite_IndexByte (a0 : Bytes) (a1 : Int) : Option Int :=
 (bytealg_IndexByteString a0 a1).bind fun x1 =>
 some x1
noncomputable def stringslite_Index (a0 : Bytes) (a1 : Bytes) : Option Int :=
 bif (bif ((a1.length : Int) == (0 : Int)) then true else (a1 == a0)) then
  some (0 : Int)
 else
  bif ((a1.length : Int) == (1 : Int)) then
   (idx a1 (0 : Int)).bind fun x1 =>
   (stringslite_IndexByte a0 (x1.toNat : Int)).bind fun x2 =>
   some x2
  else
   bif (decide ((a1.length : Int) ≥ (a0.length : Int))) then
    some (-1 : Int)
   else
    none
noncomputable def stringslite_Cut (a0 : Bytes) (a1 : Bytes) : Option (Bytes × Bytes × Bool) :=
 (stringslite_Index a0 a1).bind fun x1 =>
 bif (decide (x1 ≥ (0 : Int))) then
  (slc a0 0 x1).bind fun x2 =>
  (slc a0 (IntKind.i64.wrap (x1 + (a1.length : Int))) (a0.length : Int)).bind fun x3 =>
  some (x2, x3, true)
 else
  some (a0, ([] : Bytes), false)
noncomputable def strings_Cut (a0 : Bytes) (a1 : Bytes) : Option (Bytes × Bytes × Bool) :=
 (stringslite_Cut a0 a1).bind fun x1 =>
 some (x1.1, x1.2.1, x1.2.2)
noncomputable def strings_trimRightByte_b1 (a1 : Int) (s2 : Bytes) : Option (Bytes ⊕ Bytes) :=
 (gidx (decide ((s2.length : Int) > (0 : Int))) s2 (IntKind.i64.wrap ((s2.length : Int) - (1 : Int)))).bind fun x3 =>
 bif (bif (decide ((s2.length : Int) > (0 : Int))) then ((x3.toNat : Int) == a1) else false) then
  (slc s2 0 (IntKind.i64.wrap ((s2.length : Int) - (1 : Int)))).bind fun x4 =>
  some (.inl x4)
 else
  some (.inr s2)
noncomputable def strings_trimRightByte (a0 : Bytes) (a1 : Int) : Option Bytes :=
 (loopO (strings_trimRightByte_b1 a1) a0 : Option Bytes).bind fun j1 =>
 some j1
noncomputable def strings_trimLeftByte_b1 (a1 : Int) (s2 : Bytes) : Option (Bytes ⊕ Bytes) :=
 (gidx (decide ((s2.length : Int) > (0 : Int))) s2 (0 : Int)).bind fun x3 =>
 bif (bif (decide ((s2.length : Int) > (0 : Int))) then ((x3.toNat : Int) == a1) else false) then
  (slc s2 (1 : Int) (s2.length : Int)).bind fun x4 =>
  some (.inl x4)
 else
  some (.inr s2)
noncomputable def strings_trimLeftByte (a0 : Bytes) (a1 : Int) : Option Bytes :=
 (loopO (strings_trimLeftByte_b1 a1) a0 : Option Bytes).bind fun j1 =>
 some j1
noncomputable def strings_makeASCIISet_b1 (a0 : Bytes) (x : (Int × (List Bool))) : Option ((Int × (List Bool)) ⊕ ((List Bool) × Bool)) :=
 match x with
 | (s1, s2) =>
  bif (decide (s1 < (a0.length : Int))) then
   (idx a0 s1).bind fun x3 =>
   bif (decide ((x3.toNat : Int) ≥ (128 : Int))) then
    chk (s2.length = 256) <|
    chk (s2.length = 256 ∧ s2.length = 256) <|
    chk (s2.length = 256) (some (.inr (s2, false)))
   else
    chk (0 ≤ (x3.toNat : Int) ∧ (x3.toNat : Int) < 256) <|
    (seti s2 (x3.toNat : Int) true).bind fun x7 =>
    some (.inl ((IntKind.i64.wrap (s1 + (1 : Int))), x7))
  else
   chk (s2.length = 256) <|
   chk (s2.length = 256 ∧ s2.length = 256) <|
   chk (s2.length = 256) (some (.inr (s2, true)))
noncomputable def strings_makeASCIISet (a0 : Bytes) : Option ((List Bool) × Bool) :=
 loopO (strings_makeASCIISet_b1 a0) ((0 : Int), (List.replicate 256 false))
noncomputable def strings_asciiSet_contains (a0 : (List Bool)) (a1 : Int) : Option Bool :=
 chk (0 ≤ a1 ∧ a1 < 256) <|
 (idx a0 a1).bind fun x2 =>
 some x2
noncomputable def strings_trimRightASCII_b1 (a1 : (List Bool)) (s2 : Bytes) : Option (Bytes ⊕ Bytes) :=
 bif (decide ((s2.length : Int) > (0 : Int))) then
  (idx s2 (IntKind.i64.wrap ((s2.length : Int) - (1 : Int)))).bind fun x3 =>
  (strings_asciiSet_contains a1 (x3.toNat : Int)).bind fun x4 =>
  bif (!x4) then
   some (.inr s2)
  else
   (slc s2 0 (IntKind.i64.wrap ((s2.length : Int) - (1 : Int)))).bind fun x5 =>
   some (.inl x5)
 else
  some (.inr s2)
noncomputable def strings_trimRightASCII (a0 : Bytes) (a1 : (List Bool)) : Option Bytes :=
 (loopO (strings_trimRightASCII_b1 a1) a0 : Option Bytes).bind fun j1 =>
 some j1
noncomputable def strings_trimLeftASCII_b1 (a1 : (List Bool)) (s2 : Bytes) : Option (Bytes ⊕ Bytes) :=
 bif (decide ((s2.length : Int) > (0 : Int))) then
  (idx s2 (0 : Int)).bind fun x3 =>
  (strings_asciiSet_contains a1 (x3.toNat : Int)).bind fun x4 =>
  bif (!x4) then
   some (.inr s2)
  else
   (slc s2 (1 : Int) (s2.length : Int)).bind fun x5 =>
   some (.inl x5)
 else
  some (.inr s2)
noncomputable def strings_trimLeftASCII (a0 : Bytes) (a1 : (List Bool)) : Option Bytes :=
 (loopO (strings_trimLeftASCII_b1 a1) a0 : Option Bytes).bind fun j1 =>
 some j1
noncomputable def unicode_utf8_RuneStart (a0 : Int) : Option Bool :=
 some ((bits .and .u8 a0 (192 : Int)) != (128 : Int))
noncomputable def unicode_utf8_decodeRuneInStringSlow (a0 : Bytes) : Option (Int × Int) :=
 bif (decide ((a0.length : Int) < (1 : Int))) then
  some ((65533 : Int), (0 : Int))
 else
  (idx a0 (0 : Int)).bind fun x1 =>
  none
noncomputable def unicode_utf8_DecodeRuneInString (a0 : Bytes) : Option (Int × Int) :=
 (gidx (!(a0 == ([] : Bytes))) a0 (0 : Int)).bind fun x1 =>
 bif (bif (!(a0 == ([] : Bytes))) then (decide ((x1.toNat : Int) < (128 : Int))) else false) then
  (idx a0 (0 : Int)).bind fun x2 =>
  some ((IntKind.i32.wrap (x2.toNat : Int)), (1 : Int))
 else
  (unicode_utf8_decodeRuneInStringSlow a0).bind fun x3 =>
  some (x3.1, x3.2)
noncomputable def unicode_utf8_DecodeLastRuneInString_b1 (a0 : Bytes) (s3 : Int) : Option (Int ⊕ Int) :=
 bif (decide (s3 ≥ (imax (IntKind.i64.wrap ((a0.length : Int) - (4 : Int))) (0 : Int)))) then
  (idx a0 s3).bind fun x4 =>
  (unicode_utf8_RuneStart (x4.toNat : Int)).bind fun x5 =>
  bif x5 then
   some (.inr s3)
  else
   some (.inl (IntKind.i64.wrap (s3 - (1 : Int))))
 else
  some (.inr s3)
noncomputable def unicode_utf8_DecodeLastRuneInString (a0 : Bytes) : Option (Int × Int) :=
 bif ((a0.length : Int) == (0 : Int)) then
  some ((65533 : Int), (0 : Int))
 else
  (idx a0 (IntKind.i64.wrap ((a0.length : Int) - (1 : Int)))).bind fun x1 =>
  bif (decide ((IntKind.i32.wrap (x1.toNat : Int)) < (128 : Int))) then
   some ((IntKind.i32.wrap (x1.toNat : Int)), (1 : Int))
  else
   (loopO (unicode_utf8_DecodeLastRuneInString_b1 a0) (IntKind.i64.wrap ((IntKind.i64.wrap ((a0.length : Int) - (1 : Int))) - (1 : Int))) : Option Int).bind fun j2 =>
   bif (decide (j2 < (0 : Int))) then
    (slc a0 (0 : Int) (a0.length : Int)).bind fun x6 =>
    (unicode_utf8_DecodeRuneInString x6).bind fun x7 =>
    bif ((IntKind.i64.wrap ((0 : Int) + x7.2)) != (a0.length : Int)) then
     some ((65533 : Int), (1 : Int))
    else
     some (x7.1, x7.2)
   else
    (slc a0 j2 (a0.length : Int)).bind fun x8 =>
    (unicode_utf8_DecodeRuneInString x8).bind fun x9 =>
    bif ((IntKind.i64.wrap (j2 + x9.2)) != (a0.length : Int)) then
     some ((65533 : Int), (1 : Int))
    else
     some (x9.1, x9.2)
noncomputable def strings_IndexByte (a0 : Bytes) (a1 : Int) : Option Int :=
 (stringslite_IndexByte a0 a1).bind fun x1 =>
 some x1
noncomputable def unicode_utf8_ValidRune (a0 : Int) : Option Bool :=
 bif (bif (decide ((0 : Int) ≤ a0)) then (decide (a0 < (55296 : Int))) else false) then
  some true
 else
  bif (bif (decide ((57343 : Int) < a0)) then (decide (a0 ≤ (1114111 : Int))) else false) then
   some true
  else
   some false
noncomputable def strings_IndexRune_b1 (a0 : Bytes) (s2 : Nat) : Option (Nat ⊕ Int) :=
 bif (decide (s2 < a0.length)) then
  bif (((runeAt a0 s2 : Nat) : Int) == (65533 : Int)) then
   some (.inr ((s2 : Nat) : Int))
  else
   some (.inl (s2 + widthAt a0 s2))
 else
  some (.inr (-1 : Int))
noncomputable def strings_IndexRune_b3 (a0 : Bytes) (a1 : Int) (s4 : Int) (x9 : Int) (s10 : Int) : Option (Int ⊕ (Int ⊕ Int)) :=
 bif (decide (s10 < ((encB a1).length : Int))) then
  (idx a0 (IntKind.i64.wrap ((IntKind.i64.wrap (s4 + (IntKind.i64.wrap (x9 + (1 : Int))))) - s10))).bind fun x11 =>
  (idx (encB a1) (IntKind.i64.wrap ((IntKind.i64.wrap (((encB a1).length : Int) - (1 : Int))) - s10))).bind fun x12 =>
  bif ((x11.toNat : Int) != (x12.toNat : Int)) then
   none
  else
   some (.inl (IntKind.i64.wrap (s10 + (1 : Int))))
 else
  some (.inr (.inr (IntKind.i64.wrap ((IntKind.i64.wrap (s4 + (IntKind.i64.wrap (x9 + (1 : Int))))) - (IntKind.i64.wrap (((encB a1).length : Int) - (1 : Int)))))))
noncomputable def strings_IndexRune_b4 (a0 : Bytes) (a1 : Int) (s4 : Int) (s13 : Int) : Option (Int ⊕ (Int ⊕ Int)) :=
 bif (decide (s13 < ((encB a1).length : Int))) then
  (idx a0 (IntKind.i64.wrap (s4 - s13))).bind fun x14 =>
  (idx (encB a1) (IntKind.i64.wrap ((IntKind.i64.wrap (((encB a1).length : Int) - (1 : Int))) - s13))).bind fun x15 =>
  bif ((x14.toNat : Int) != (x15.toNat : Int)) then
   none
  else
   some (.inl (IntKind.i64.wrap (s13 + (1 : Int))))
 else
  some (.inr (.inr (IntKind.i64.wrap (s4 - (IntKind.i64.wrap (((encB a1).length : Int) - (1 : Int)))))))
noncomputable def strings_IndexRune_b2 (a0 : Bytes) (a1 : Int) (s4 : Int) : Option (Int ⊕ Int) :=
 bif (decide (s4 < (a0.length : Int))) then
  (idx a0 s4).bind fun x5 =>
  (idx (encB a1) (IntKind.i64.wrap (((encB a1).length : Int) - (1 : Int)))).bind fun x6 =>
  bif ((x5.toNat : Int) != (x6.toNat : Int)) then
   (slc a0 (IntKind.i64.wrap (s4 + (1 : Int))) (a0.length : Int)).bind fun x7 =>
   (idx (encB a1) (IntKind.i64.wrap (((encB a1).length : Int) - (1 : Int)))).bind fun x8 =>
   (strings_IndexByte x7 (x8.toNat : Int)).bind fun x9 =>
   bif (decide (x9 < (0 : Int))) then
    some (.inr (-1 : Int))
   else
    loopO (strings_IndexRune_b3 a0 a1 s4 x9) (1 : Int)
  else
   loopO (strings_IndexRune_b4 a0 a1 s4) (1 : Int)
 else
  some (.inr (-1 : Int))
noncomputable def strings_IndexRune (a0 : Bytes) (a1 : Int) : Option Int :=
 bif (bif (decide ((0 : Int) ≤ a1)) then (decide (a1 < (128 : Int))) else false) then
  (strings_IndexByte a0 (IntKind.u8.wrap a1)).bind fun x1 =>
  some x1
 else
  bif (a1 == (65533 : Int)) then
   loopO (strings_IndexRune_b1 a0) 0
  else
   (unicode_utf8_ValidRune a1).bind fun x3 =>
   bif (!x3) then
    some (-1 : Int)
   else
    loopO (strings_IndexRune_b2 a0 a1) (IntKind.i64.wrap (((encB a1).length : Int) - (1 : Int)))
noncomputable def strings_ContainsRune (a0 : Bytes) (a1 : Int) : Option Bool :=
 (strings_IndexRune a0 a1).bind fun x1 =>
 some (decide (x1 ≥ (0 : Int)))
noncomputable def strings_trimRightUnicode_b1 (a1 : Bytes) (s2 : Bytes) : Option (Bytes ⊕ Bytes) :=
 bif (decide ((s2.length : Int) > (0 : Int))) then
  (idx s2 (IntKind.i64.wrap ((s2.length : Int) - (1 : Int)))).bind fun x3 =>
  bif (decide ((IntKind.i32.wrap (x3.toNat : Int)) ≥ (128 : Int))) then
   (unicode_utf8_DecodeLastRuneInString s2).bind fun x4 =>
   (strings_ContainsRune a1 x4.1).bind fun x5 =>
   bif (!x5) then
    some (.inr s2)
   else
    (slc s2 0 (IntKind.i64.wrap ((s2.length : Int) - x4.2))).bind fun x6 =>
    some (.inl x6)
  else
   (strings_ContainsRune a1 (IntKind.i32.wrap (x3.toNat : Int))).bind fun x7 =>
   bif (!x7) then
    some (.inr s2)
   else
    (slc s2 0 (IntKind.i64.wrap ((s2.length : Int) - (1 : Int)))).bind fun x8 =>
    some (.inl x8)
 else
  some (.inr s2)
noncomputable def strings_trimRightUnicode (a0 : Bytes) (a1 : Bytes) : Option Bytes :=
 (loopO (strings_trimRightUnicode_b1 a1) a0 : Option Bytes).bind fun j1 =>
 some j1
noncomputable def strings_trimLeftUnicode_b1 (a1 : Bytes) (s2 : Bytes) : Option (Bytes ⊕ Bytes) :=
 bif (decide ((s2.length : Int) > (0 : Int))) then
  (unicode_utf8_DecodeRuneInString s2).bind fun x3 =>
  (strings_ContainsRune a1 x3.1).bind fun x4 =>
  bif (!x4) then
   some (.inr s2)
  else
   (slc s2 x3.2 (s2.length : Int)).bind fun x5 =>
   some (.inl x5)
 else
  some (.inr s2)
noncomputable def strings_trimLeftUnicode (a0 : Bytes) (a1 : Bytes) : Option Bytes :=
 (loopO (strings_trimLeftUnicode_b1 a1) a0 : Option Bytes).bind fun j1 =>
 some j1
noncomputable def strings_Trim (a0 : Bytes) (a1 : Bytes) : Option Bytes :=
 bif (bif (a0 == ([] : Bytes)) then true else (a1 == ([] : Bytes))) then
  some a0
 else
  (gidx ((a1.length : Int) == (1 : Int)) a1 (0 : Int)).bind fun x1 =>
  bif (bif ((a1.length : Int) == (1 : Int)) then (decide ((x1.toNat : Int) < (128 : Int))) else false) then
   (idx a1 (0 : Int)).bind fun x2 =>
   (strings_trimRightByte a0 (x2.toNat : Int)).bind fun x3 =>
   (idx a1 (0 : Int)).bind fun x4 =>
   (strings_trimLeftByte x3 (x4.toNat : Int)).bind fun x5 =>
   some x5
  else
   (strings_makeASCIISet a1).bind fun x6 =>
   chk (x6.1.length = 256) <|
   chk (0 < x6.1.length) <|
   bif x6.2 then
    (strings_trimRightASCII a0 x6.1).bind fun x8 =>
    (strings_trimLeftASCII x8 x6.1).bind fun x9 =>
    some x9
   else
    (strings_trimRightUnicode a0 a1).bind fun x10 =>
    (strings_trimLeftUnicode x10 a1).bind fun x11 =>
    some x11
noncomputable def text_Trim (a0 : Bytes) : Option Bytes :=
 (strings_Trim a0 ([32, 9] : Bytes)).bind fun x1 =>
 some x1
noncomputable def slices_IndexFunc__api_Field_api_Field_b1 (a0 : (List S_Field)) (a1i : S_Field → Option Bool) (s1 : Int) : Option (Int ⊕ Int) :=
 bif (decide (s1 < (a0.length : Int))) then
  (idx a0 s1).bind fun x2 =>
  (a1i x2).bind fun x3 =>
  bif x3 then
   some (.inr s1)
  else
   some (.inl (IntKind.i64.wrap (s1 + (1 : Int))))
 else
  some (.inr (-1 : Int))
noncomputable def slices_IndexFunc__api_Field_api_Field (a0 : (List S_Field)) (a1i : S_Field → Option Bool) : Option Int :=
 loopO (slices_IndexFunc__api_Field_api_Field_b1 a0 a1i) (0 : Int)
noncomputable def slices_ContainsFunc__api_Field_api_Field (a0 : (List S_Field)) (a1i : S_Field → Option Bool) : Option Bool :=
 (slices_IndexFunc__api_Field_api_Field a0 a1i).bind fun x1 =>
 some (decide (x1 ≥ (0 : Int)))
noncomputable def text_tokens_b1 (x : (Int × (List Bool))) : Option ((Int × (List Bool)) ⊕ (List Bool)) :=
 match x with
 | (s2, s3) =>
  bif (decide (s2 < (256 : Int))) then
   (gcall (!(bif (bif (bif (decide ((IntKind.u8.wrap s2) ≥ (97 : Int))) then (decide ((IntKind.u8.wrap s2) ≤ (122 : Int))) else false) then true else (bif (decide ((IntKind.u8.wrap s2) ≥ (65 : Int))) then (decide ((IntKind.u8.wrap s2) ≤ (90 : Int))) else false)) then true else (bif (decide ((IntKind.u8.wrap s2) ≥ (48 : Int))) then (decide ((IntKind.u8.wrap s2) ≤ (57 : Int))) else false))) (strings_IndexByte ([33, 35, 36, 37, 38, 39, 42, 43, 45, 46, 94, 95, 124, 126, 96] : Bytes) (IntKind.u8.wrap s2))).bind fun x4 =>
   chk (0 ≤ s2 ∧ s2 < 256) <|
   (seti s3 s2 (bif (bif (bif (bif (decide ((IntKind.u8.wrap s2) ≥ (97 : Int))) then (decide ((IntKind.u8.wrap s2) ≤ (122 : Int))) else false) then true else (bif (decide ((IntKind.u8.wrap s2) ≥ (65 : Int))) then (decide ((IntKind.u8.wrap s2) ≤ (90 : Int))) else false)) then true else (bif (decide ((IntKind.u8.wrap s2) ≥ (48 : Int))) then (decide ((IntKind.u8.wrap s2) ≤ (57 : Int))) else false)) then true else (decide (x4 ≥ (0 : Int))))).bind fun x6 =>
   some (.inl ((IntKind.i64.wrap (s2 + (1 : Int))), x6))
  else
   some (.inr s3)
noncomputable def text_tokens : Option (List Bool) :=
 (loopO text_tokens_b1 ((0 : Int), (List.replicate 256 false)) : Option (List Bool)).bind fun j1 =>
 chk (0 < j1.length) (some j1)
noncomputable def text_all_b1 (a0 : Bytes) (a1 : (List Bool)) (a2i : (List Bool) → Int → Option Bool) (s1 : Int) : Option (Int ⊕ Bool) :=
 bif (decide (s1 < (a0.length : Int))) then
  (idx a0 s1).bind fun x2 =>
  (a2i a1 (x2.toNat : Int)).bind fun x3 =>
  bif (!x3) then
   some (.inr false)
  else
   some (.inl (IntKind.i64.wrap (s1 + (1 : Int))))
 else
  some (.inr true)
noncomputable def text_all (a0 : Bytes) (a1 : (List Bool)) (a2i : (List Bool) → Int → Option Bool) : Option Bool :=
 loopO (text_all_b1 a0 a1 a2i) (0 : Int)
noncomputable def text_set_has (a0 : (List Bool)) (a1 : Int) : Option Bool :=
 chk (0 ≤ a1 ∧ a1 < 256) <|
 (idx a0 a1).bind fun x2 =>
 some x2
noncomputable def text_Token (a0 : Bytes) : Option Bool :=
 (gcall (!(a0 == ([] : Bytes))) text_tokens).bind fun x1 =>
 (gcall (!(a0 == ([] : Bytes))) (text_all a0 x1 (fun x0 x1 => text_set_has x0 x1))).bind fun x2 =>
 some (bif (!(a0 == ([] : Bytes))) then x2 else false)
noncomputable def slices_IndexFunc__byte_byte_b1 (a0 : (List UInt8)) (a1i : Int → Option Bool) (s1 : Int) : Option (Int ⊕ Int) :=
 bif (decide (s1 < (a0.length : Int))) then
  (idx a0 s1).bind fun x2 =>
  (a1i (x2.toNat : Int)).bind fun x3 =>
  bif x3 then
   some (.inr s1)
  else
   some (.inl (IntKind.i64.wrap (s1 + (1 : Int))))
 else
  some (.inr (-1 : Int))
noncomputable def slices_IndexFunc__byte_byte (a0 : (List UInt8)) (a1i : Int → Option Bool) : Option Int :=
 loopO (slices_IndexFunc__byte_byte_b1 a0 a1i) (0 : Int)
noncomputable def slices_ContainsFunc__byte_byte (a0 : (List UInt8)) (a1i : Int → Option Bool) : Option Bool :=
 (slices_IndexFunc__byte_byte a0 a1i).bind fun x1 =>
 some (decide (x1 ≥ (0 : Int)))
noncomputable def table_may_1 (a0 : Int) : Option Bool :=
 some (bif (bif (decide (a0 < (32 : Int))) then (a0 != (9 : Int)) else false) then true else (a0 == (127 : Int)))
noncomputable def table_may (a0 : S_Field) : Option Bool :=
 (text_Token a0.Name).bind fun x1 =>
 (gcall x1 (text_Trim a0.Value)).bind fun x2 =>
 (gcall (bif (bif x1 then (x2 == a0.Value) else false) then (decide ((a0.Value.length : Int) ≤ (1000 : Int))) else false) (slices_ContainsFunc__byte_byte a0.Value (fun x0 => table_may_1 x0))).bind fun x3 =>
 some (bif (bif (bif x1 then (x2 == a0.Value) else false) then (decide ((a0.Value.length : Int) ≤ (1000 : Int))) else false) then (!x3) else false)
noncomputable def table_Right_1 (a0 : S_Field) : Option Bool :=
 (table_may a0).bind fun x1 =>
 some (!x1)
noncomputable def table_Right (a0 : (List S_Field)) : Option Bool :=
 (gcall (decide ((a0.length : Int) ≤ (40 : Int))) (slices_ContainsFunc__api_Field_api_Field a0 (fun x0 => table_Right_1 x0))).bind fun x1 =>
 some (bif (decide ((a0.length : Int) ≤ (40 : Int))) then (!x1) else false)
noncomputable def slices_Clip__api_Field_api_Field (a0 : (List S_Field)) : Option (List S_Field) :=
 (slc a0 0 (a0.length : Int)).bind fun x1 =>
 some x1
noncomputable def table_Add (a0 : (List S_Field)) (a1 : Bytes) (a2 : Bytes) : Option ((List S_Field) × Int) :=
 (table_Right a0).bind fun x1 =>
 (gcall (!(!x1)) (table_may (S_Field.mk a1 a2))).bind fun x2 =>
 bif (bif (!x1) then true else (!x2)) then
  some (([] : List S_Field), (1 : Int))
 else
  bif (decide ((a0.length : Int) ≥ (40 : Int))) then
   some (([] : List S_Field), (4 : Int))
  else
   (slices_Clip__api_Field_api_Field a0).bind fun x3 =>
   (app 32 x3 ([(S_Field.mk a1 a2)] : List S_Field)).bind fun x4 =>
   some (x4, (0 : Int))
noncomputable def head_lines (a0 : Bytes) : Option Bytes :=
 some a0
end Go.Proofs.YtommkfooolabhaaGreatDoor
