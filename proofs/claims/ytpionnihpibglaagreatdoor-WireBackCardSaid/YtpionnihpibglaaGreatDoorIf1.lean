/-
  The plain images of the functions, written by a program of mine (gen.py) off the translation.
-/
import Derived.Test.YtpionnihpibglaaGreatDoorGi5
import Derived.Test.YtpionnihpibglaaGreatDoorGi1
namespace Go.Proofs.YtpionnihpibglaaGreatDoor
open Go Go.Pm
set_option linter.unusedSimpArgs false
set_option linter.unusedVariables false
noncomputable def strconv_isPowerOfTwo (a0 : Int) : Option Bool :=
 some ((bits .and .i64 a0 (IntKind.i64.wrap (a0 - (1 : Int)))) == (0 : Int))
noncomputable def math_bits_TrailingZeros (a0 : Int) : Option Int :=
 (math_bits_TrailingZeros64 a0).bind fun x1 =>
 some x1
noncomputable def strconv_formatBits_b1 (a2 : Int) (x3 : Int) (x : (Int × Int × (List UInt8))) : Option ((Int × Int × (List UInt8)) ⊕ (Int × Int × (List UInt8))) :=
 match x with
 | (s5, s6, s7) =>
  bif (decide (s5 ≥ (IntKind.u64.wrap a2))) then
   (idx ([48, 49, 50, 51, 52, 53, 54, 55, 56, 57, 97, 98, 99, 100, 101, 102, 103, 104, 105, 106, 107, 108, 109, 110, 111, 112, 113, 114, 115, 116, 117, 118, 119, 120, 121, 122] : Bytes) (bits .and .u64 s5 (IntKind.u64.wrap ((IntKind.u64.wrap a2) - (1 : Int))))).bind fun x8 =>
   chk (0 ≤ (IntKind.i64.wrap (s6 - (1 : Int))) ∧ (IntKind.i64.wrap (s6 - (1 : Int))) < 65) <|
   (seti s7 (IntKind.i64.wrap (s6 - (1 : Int))) (u8 (x8.toNat : Int))).bind fun x10 =>
   chk ((0 ≤ (IntKind.u64.wrap x3) ∧ (IntKind.u64.wrap x3) ≤ (IntKind.u64.bits : Int)) ∧ IntKind.u64.wrap (s5 / 2 ^ (IntKind.u64.wrap x3).toNat) = s5 / 2 ^ (IntKind.u64.wrap x3).toNat) <|
   some (.inl ((s5 / 2 ^ (IntKind.u64.wrap x3).toNat), (IntKind.i64.wrap (s6 - (1 : Int))), x10))
  else
   some (.inr (s5, s6, s7))
noncomputable def strconv_formatBits_b2 (a2 : Int) (x : (Int × Int × (List UInt8))) : Option ((Int × Int × (List UInt8)) ⊕ (Int × Int × (List UInt8))) :=
 match x with
 | (s16, s17, s18) =>
  bif (decide (s16 ≥ (IntKind.u64.wrap a2))) then
   chk (((IntKind.u64.wrap a2) == 0) = false) <|
   (idx ([48, 49, 50, 51, 52, 53, 54, 55, 56, 57, 97, 98, 99, 100, 101, 102, 103, 104, 105, 106, 107, 108, 109, 110, 111, 112, 113, 114, 115, 116, 117, 118, 119, 120, 121, 122] : Bytes) (IntKind.u64.wrap (s16 - (IntKind.u64.wrap ((IntKind.u64.wrap (s16.tdiv (IntKind.u64.wrap a2))) * (IntKind.u64.wrap a2)))))).bind fun x20 =>
   chk (0 ≤ (IntKind.i64.wrap (s17 - (1 : Int))) ∧ (IntKind.i64.wrap (s17 - (1 : Int))) < 65) <|
   (seti s18 (IntKind.i64.wrap (s17 - (1 : Int))) (u8 (x20.toNat : Int))).bind fun x22 =>
   some (.inl ((IntKind.u64.wrap (s16.tdiv (IntKind.u64.wrap a2))), (IntKind.i64.wrap (s17 - (1 : Int))), x22))
  else
   some (.inr (s16, s17, s18))
noncomputable def strconv_formatBits_b3 (a2 : Int) (x40 : Int) (x : (Int × Int × (List UInt8))) : Option ((Int × Int × (List UInt8)) ⊕ (Int × Int × (List UInt8))) :=
 match x with
 | (s42, s43, s44) =>
  bif (decide (s42 ≥ (IntKind.u64.wrap a2))) then
   (idx ([48, 49, 50, 51, 52, 53, 54, 55, 56, 57, 97, 98, 99, 100, 101, 102, 103, 104, 105, 106, 107, 108, 109, 110, 111, 112, 113, 114, 115, 116, 117, 118, 119, 120, 121, 122] : Bytes) (bits .and .u64 s42 (IntKind.u64.wrap ((IntKind.u64.wrap a2) - (1 : Int))))).bind fun x45 =>
   chk (0 ≤ (IntKind.i64.wrap (s43 - (1 : Int))) ∧ (IntKind.i64.wrap (s43 - (1 : Int))) < 65) <|
   (seti s44 (IntKind.i64.wrap (s43 - (1 : Int))) (u8 (x45.toNat : Int))).bind fun x47 =>
   chk ((0 ≤ (IntKind.u64.wrap x40) ∧ (IntKind.u64.wrap x40) ≤ (IntKind.u64.bits : Int)) ∧ IntKind.u64.wrap (s42 / 2 ^ (IntKind.u64.wrap x40).toNat) = s42 / 2 ^ (IntKind.u64.wrap x40).toNat) <|
   some (.inl ((s42 / 2 ^ (IntKind.u64.wrap x40).toNat), (IntKind.i64.wrap (s43 - (1 : Int))), x47))
  else
   some (.inr (s42, s43, s44))
noncomputable def strconv_formatBits_b4 (a2 : Int) (x : (Int × Int × (List UInt8))) : Option ((Int × Int × (List UInt8)) ⊕ (Int × Int × (List UInt8))) :=
 match x with
 | (s53, s54, s55) =>
  bif (decide (s53 ≥ (IntKind.u64.wrap a2))) then
   chk (((IntKind.u64.wrap a2) == 0) = false) <|
   (idx ([48, 49, 50, 51, 52, 53, 54, 55, 56, 57, 97, 98, 99, 100, 101, 102, 103, 104, 105, 106, 107, 108, 109, 110, 111, 112, 113, 114, 115, 116, 117, 118, 119, 120, 121, 122] : Bytes) (IntKind.u64.wrap (s53 - (IntKind.u64.wrap ((IntKind.u64.wrap (s53.tdiv (IntKind.u64.wrap a2))) * (IntKind.u64.wrap a2)))))).bind fun x57 =>
   chk (0 ≤ (IntKind.i64.wrap (s54 - (1 : Int))) ∧ (IntKind.i64.wrap (s54 - (1 : Int))) < 65) <|
   (seti s55 (IntKind.i64.wrap (s54 - (1 : Int))) (u8 (x57.toNat : Int))).bind fun x59 =>
   some (.inl ((IntKind.u64.wrap (s53.tdiv (IntKind.u64.wrap a2))), (IntKind.i64.wrap (s54 - (1 : Int))), x59))
  else
   some (.inr (s53, s54, s55))
noncomputable def strconv_formatBits (a0 : (List UInt8)) (a1 : Int) (a2 : Int) (a3 : Bool) (a4 : Bool) : Option ((List UInt8) × Bytes) :=
 bif (bif (bif (decide (a2 < (2 : Int))) then true else (a2 == (10 : Int))) then true else (decide (a2 > (36 : Int)))) then
  none
 else
  bif a3 then
   ((strconv_isPowerOfTwo a2).bind fun x2 =>
   bif x2 then
    (math_bits_TrailingZeros (IntKind.u64.wrap a2)).bind fun x3 =>
    (loopO (strconv_formatBits_b1 a2 x3) ((IntKind.u64.wrap (0 - a1)), (65 : Int), (List.replicate 65 (0 : UInt8))) : Option (Int × Int × (List UInt8))).bind fun j4 =>
    (idx ([48, 49, 50, 51, 52, 53, 54, 55, 56, 57, 97, 98, 99, 100, 101, 102, 103, 104, 105, 106, 107, 108, 109, 110, 111, 112, 113, 114, 115, 116, 117, 118, 119, 120, 121, 122] : Bytes) j4.1).bind fun x12 =>
    chk (0 ≤ (IntKind.i64.wrap (j4.2.1 - (1 : Int))) ∧ (IntKind.i64.wrap (j4.2.1 - (1 : Int))) < 65) <|
    (seti j4.2.2 (IntKind.i64.wrap (j4.2.1 - (1 : Int))) (u8 (x12.toNat : Int))).bind fun x14 =>
    some ((IntKind.i64.wrap (j4.2.1 - (1 : Int))), x14)
   else
    (loopO (strconv_formatBits_b2 a2) ((IntKind.u64.wrap (0 - a1)), (65 : Int), (List.replicate 65 (0 : UInt8))) : Option (Int × Int × (List UInt8))).bind fun j15 =>
    (idx ([48, 49, 50, 51, 52, 53, 54, 55, 56, 57, 97, 98, 99, 100, 101, 102, 103, 104, 105, 106, 107, 108, 109, 110, 111, 112, 113, 114, 115, 116, 117, 118, 119, 120, 121, 122] : Bytes) j15.1).bind fun x23 =>
    chk (0 ≤ (IntKind.i64.wrap (j15.2.1 - (1 : Int))) ∧ (IntKind.i64.wrap (j15.2.1 - (1 : Int))) < 65) <|
    (seti j15.2.2 (IntKind.i64.wrap (j15.2.1 - (1 : Int))) (u8 (x23.toNat : Int))).bind fun x25 =>
    some ((IntKind.i64.wrap (j15.2.1 - (1 : Int))), x25) : Option (Int × (List UInt8))).bind fun j1 =>
   bif a3 then
    chk (0 ≤ (IntKind.i64.wrap (j1.1 - (1 : Int))) ∧ (IntKind.i64.wrap (j1.1 - (1 : Int))) < 65) <|
    (seti j1.2 (IntKind.i64.wrap (j1.1 - (1 : Int))) (u8 (45 : Int))).bind fun x27 =>
    bif a4 then
     chk (0 ≤ (IntKind.i64.wrap (j1.1 - (1 : Int))) ∧ (IntKind.i64.wrap (j1.1 - (1 : Int))) < (65 : Int) ∧ (65 : Int) ≤ (65 : Int)) <|
     none
    else
     chk (0 ≤ (IntKind.i64.wrap (j1.1 - (1 : Int))) ∧ (IntKind.i64.wrap (j1.1 - (1 : Int))) < (65 : Int) ∧ (65 : Int) ≤ (65 : Int)) <|
     chk ((0 + (IntKind.i64.wrap (j1.1 - (1 : Int))).toNat * 1) + ((65 : Int).toNat - (IntKind.i64.wrap (j1.1 - (1 : Int))).toNat) ≤ x27.length) <|
     some (([] : List UInt8), ((x27.drop (0 + (IntKind.i64.wrap (j1.1 - (1 : Int))).toNat * 1)).take ((65 : Int).toNat - (IntKind.i64.wrap (j1.1 - (1 : Int))).toNat)))
   else
    bif a4 then
     chk (0 ≤ j1.1 ∧ j1.1 < (65 : Int) ∧ (65 : Int) ≤ (65 : Int)) <|
     none
    else
     chk (0 ≤ j1.1 ∧ j1.1 < (65 : Int) ∧ (65 : Int) ≤ (65 : Int)) <|
     chk ((0 + j1.1.toNat * 1) + ((65 : Int).toNat - j1.1.toNat) ≤ j1.2.length) <|
     some (([] : List UInt8), ((j1.2.drop (0 + j1.1.toNat * 1)).take ((65 : Int).toNat - j1.1.toNat)))
  else
   ((strconv_isPowerOfTwo a2).bind fun x39 =>
   bif x39 then
    (math_bits_TrailingZeros (IntKind.u64.wrap a2)).bind fun x40 =>
    (loopO (strconv_formatBits_b3 a2 x40) (a1, (65 : Int), (List.replicate 65 (0 : UInt8))) : Option (Int × Int × (List UInt8))).bind fun j41 =>
    (idx ([48, 49, 50, 51, 52, 53, 54, 55, 56, 57, 97, 98, 99, 100, 101, 102, 103, 104, 105, 106, 107, 108, 109, 110, 111, 112, 113, 114, 115, 116, 117, 118, 119, 120, 121, 122] : Bytes) j41.1).bind fun x49 =>
    chk (0 ≤ (IntKind.i64.wrap (j41.2.1 - (1 : Int))) ∧ (IntKind.i64.wrap (j41.2.1 - (1 : Int))) < 65) <|
    (seti j41.2.2 (IntKind.i64.wrap (j41.2.1 - (1 : Int))) (u8 (x49.toNat : Int))).bind fun x51 =>
    some ((IntKind.i64.wrap (j41.2.1 - (1 : Int))), x51)
   else
    (loopO (strconv_formatBits_b4 a2) (a1, (65 : Int), (List.replicate 65 (0 : UInt8))) : Option (Int × Int × (List UInt8))).bind fun j52 =>
    (idx ([48, 49, 50, 51, 52, 53, 54, 55, 56, 57, 97, 98, 99, 100, 101, 102, 103, 104, 105, 106, 107, 108, 109, 110, 111, 112, 113, 114, 115, 116, 117, 118, 119, 120, 121, 122] : Bytes) j52.1).bind fun x60 =>
    chk (0 ≤ (IntKind.i64.wrap (j52.2.1 - (1 : Int))) ∧ (IntKind.i64.wrap (j52.2.1 - (1 : Int))) < 65) <|
    (seti j52.2.2 (IntKind.i64.wrap (j52.2.1 - (1 : Int))) (u8 (x60.toNat : Int))).bind fun x62 =>
    some ((IntKind.i64.wrap (j52.2.1 - (1 : Int))), x62) : Option (Int × (List UInt8))).bind fun j38 =>
   bif a3 then
    chk (0 ≤ (IntKind.i64.wrap (j38.1 - (1 : Int))) ∧ (IntKind.i64.wrap (j38.1 - (1 : Int))) < 65) <|
    (seti j38.2 (IntKind.i64.wrap (j38.1 - (1 : Int))) (u8 (45 : Int))).bind fun x64 =>
    bif a4 then
     chk (0 ≤ (IntKind.i64.wrap (j38.1 - (1 : Int))) ∧ (IntKind.i64.wrap (j38.1 - (1 : Int))) < (65 : Int) ∧ (65 : Int) ≤ (65 : Int)) <|
     none
    else
     chk (0 ≤ (IntKind.i64.wrap (j38.1 - (1 : Int))) ∧ (IntKind.i64.wrap (j38.1 - (1 : Int))) < (65 : Int) ∧ (65 : Int) ≤ (65 : Int)) <|
     chk ((0 + (IntKind.i64.wrap (j38.1 - (1 : Int))).toNat * 1) + ((65 : Int).toNat - (IntKind.i64.wrap (j38.1 - (1 : Int))).toNat) ≤ x64.length) <|
     some (([] : List UInt8), ((x64.drop (0 + (IntKind.i64.wrap (j38.1 - (1 : Int))).toNat * 1)).take ((65 : Int).toNat - (IntKind.i64.wrap (j38.1 - (1 : Int))).toNat)))
   else
    bif a4 then
     chk (0 ≤ j38.1 ∧ j38.1 < (65 : Int) ∧ (65 : Int) ≤ (65 : Int)) <|
     none
    else
     chk (0 ≤ j38.1 ∧ j38.1 < (65 : Int) ∧ (65 : Int) ≤ (65 : Int)) <|
     chk ((0 + j38.1.toNat * 1) + ((65 : Int).toNat - j38.1.toNat) ≤ j38.2.length) <|
     some (([] : List UInt8), ((j38.2.drop (0 + j38.1.toNat * 1)).take ((65 : Int).toNat - j38.1.toNat)))
noncomputable def fu16i (a0 : Int) (a1 : Int) : Option Bytes :=
 bif (a1 == (10 : Int)) then
  bif (decide (a0 < (100 : Int))) then
   none
  else
   none
 else
  (strconv_formatBits ([] : List UInt8) a0 a1 false false).bind fun x1 =>
  some x1.2
noncomputable def fu16 (a0 : Int) (a1 : Int) : Option Bytes :=
 (fu16i a0 a1).bind fun x1 =>
 some x1
end Go.Proofs.YtpionnihpibglaaGreatDoor
