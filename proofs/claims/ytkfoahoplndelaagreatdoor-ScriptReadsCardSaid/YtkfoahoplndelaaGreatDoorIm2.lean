/-
  The plain images of the functions, written by a program of mine (gen.py) off the translation.
-/
import Derived.Test.YtkfoahoplndelaaGreatDoorIm1
import Derived.Test.YtkfoahoplndelaaGreatDoorGi2
namespace Go.Proofs.YtkfoahoplndelaaGreatDoor
open Go Go.Pm
set_option linter.unusedVariables false

noncomputable def intarsiaref25_IsDeed (a0 : S_Deed) : Option Bool :=
  bif (bif (bif (bif (bif (decide ((a0.Kind) < (1 : Int))) then true else (decide ((a0.Kind) > (6 : Int)))) then true else (decide ((a0.At) < (0 : Int)))) then true else (decide ((a0.At) > (100000 : Int)))) then true else (decide (((a0.Bytes).length : Int) > (3000 : Int)))) then
    some false
  else
    bif (bif (bif (bif (bif ((a0.Kind) != (2 : Int)) then ((a0.Kind) != (4 : Int)) else false) then ((a0.Kind) != (5 : Int)) else false) then ((a0.At) != (0 : Int)) else false) then true else (bif (bif ((a0.Kind) != (1 : Int)) then ((a0.Kind) != (4 : Int)) else false) then (!(a0.Bytes == ([] : Bytes))) else false)) then
      some false
    else
      some (bif ((a0.Kind) == (5 : Int)) then true else (!(a0.Clean)))

noncomputable def intarsiaref03_word_b1 (a0 : Int) (s1 : Int) : Option (Int ⊕ Bool) :=
  bif (decide (s1 < (([33, 35, 36, 37, 38, 39, 42, 43, 45, 46, 94, 95, 124, 126] : Bytes).length : Int))) then
    (idx ([33, 35, 36, 37, 38, 39, 42, 43, 45, 46, 94, 95, 124, 126] : Bytes) s1).bind fun x2 =>
    bif ((x2.toNat : Int) == a0) then
      some (.inr true)
    else
      some (.inl (IntKind.i64.wrap (s1 + (1 : Int))))
  else
    some (.inr false)
noncomputable def intarsiaref03_word (a0 : Int) : Option Bool :=
  bif (bif (bif (bif (bif (decide (a0 ≥ (97 : Int))) then (decide (a0 ≤ (122 : Int))) else false) then true else (bif (decide (a0 ≥ (65 : Int))) then (decide (a0 ≤ (90 : Int))) else false)) then true else (bif (decide (a0 ≥ (48 : Int))) then (decide (a0 ≤ (57 : Int))) else false)) then true else (a0 == (96 : Int))) then
    some true
  else
    loopO (intarsiaref03_word_b1 a0) (0 : Int)

noncomputable def intarsiaref03_Token_b1 (a0 : Bytes) (s1 : Int) : Option (Int ⊕ Bool) :=
  bif (decide (s1 < (a0.length : Int))) then
    (idx a0 s1).bind fun x2 =>
    (intarsiaref03_word (x2.toNat : Int)).bind fun x3 =>
    bif (!x3) then
      some (.inr false)
    else
      some (.inl (IntKind.i64.wrap (s1 + (1 : Int))))
  else
    some (.inr (!(a0 == ([] : Bytes))))
noncomputable def intarsiaref03_Token (a0 : Bytes) : Option Bool :=
  loopO (intarsiaref03_Token_b1 a0) (0 : Int)

noncomputable def intarsiaref25_device (a0 : Bytes) : Option Bool :=
  (intarsiaref03_Token a0).bind fun x1 =>
  some (bif x1 then (decide ((a0.length : Int) ≤ (40 : Int))) else false)

noncomputable def intarsiaref05_find_b1 (a0 : Bytes) (a1 : Int) (s1 : Int) : Option (Int ⊕ Int) :=
  bif (decide (s1 < (a0.length : Int))) then
    (idx a0 s1).bind fun x2 =>
    bif ((x2.toNat : Int) == a1) then
      some (.inr s1)
    else
      some (.inl (IntKind.i64.wrap (s1 + (1 : Int))))
  else
    some (.inr (-1 : Int))
noncomputable def intarsiaref05_find (a0 : Bytes) (a1 : Int) : Option Int :=
  loopO (intarsiaref05_find_b1 a0 a1) (0 : Int)

noncomputable def intarsiaref05_Bytes_b1 (a0 : Bytes) (s1 : Int) : Option (Int ⊕ Bool) :=
  bif (decide (s1 < (a0.length : Int))) then
    (idx a0 s1).bind fun x2 =>
    (gcall (!(bif (bif (decide ((x2.toNat : Int) < (33 : Int))) then true else (decide ((x2.toNat : Int) > (126 : Int)))) then true else ((x2.toNat : Int) == (96 : Int)))) (intarsiaref05_find ([34, 35, 60, 62, 92, 94, 123, 124, 125] : Bytes) (x2.toNat : Int))).bind fun x3 =>
    bif (bif (bif (bif (decide ((x2.toNat : Int) < (33 : Int))) then true else (decide ((x2.toNat : Int) > (126 : Int)))) then true else ((x2.toNat : Int) == (96 : Int))) then true else (decide (x3 ≥ (0 : Int)))) then
      some (.inr false)
    else
      some (.inl (IntKind.i64.wrap (s1 + (1 : Int))))
  else
    some (.inr true)
noncomputable def intarsiaref05_Bytes (a0 : Bytes) : Option Bool :=
  loopO (intarsiaref05_Bytes_b1 a0) (0 : Int)

noncomputable def intarsiaref02_Digits_b1 (a1 : Int) (x : (Int × Bytes)) : Option ((Int × Bytes) ⊕ Bytes) :=
  match x with
  | (s2, s3) =>
    bif (bif (decide (s2 > (0 : Int))) then true else (s3 == ([] : Bytes))) then
      chk ((a1 == 0) = false ∧ IntKind.u64.wrap (s2.tmod a1) = s2.tmod a1) <|
      chk ((a1 == 0) = false ∧ IntKind.u64.wrap (s2.tmod a1) = s2.tmod a1) <|
      (slc ([48, 49, 50, 51, 52, 53, 54, 55, 56, 57, 97, 98, 99, 100, 101, 102] : Bytes) (s2.tmod a1) (IntKind.u64.wrap ((s2.tmod a1) + (1 : Int)))).bind fun x6 =>
      (cat x6 s3).bind fun x7 =>
      chk ((a1 == 0) = false) <|
      some (.inl ((IntKind.u64.wrap (s2.tdiv a1)), x7))
    else
      some (.inr s3)
noncomputable def intarsiaref02_Digits (a0 : Int) (a1 : Int) : Option Bytes :=
  (loopO (intarsiaref02_Digits_b1 a1) (a0, ([] : Bytes)) : Option Bytes).bind fun j1 =>
  some j1

noncomputable def intarsiaref05_Write (a0 : S_Uri) : Option Bytes :=
  bif a0.Abs then
    (cat ([104, 116, 116, 112, 58, 47, 47] : Bytes) (a0.Host)).bind fun x1 =>
    bif ((a0.Port) != (0 : Int)) then
      (cat x1 ([58] : Bytes)).bind fun x2 =>
      (intarsiaref02_Digits (IntKind.u64.wrap (a0.Port)) (10 : Int)).bind fun x3 =>
      (cat x2 x3).bind fun x4 =>
      (cat x4 (a0.Path)).bind fun x5 =>
      bif a0.Asks then
        (cat x5 ([63] : Bytes)).bind fun x6 =>
        (cat x6 (a0.Query)).bind fun x7 =>
        some x7
      else
        some x5
    else
      (cat x1 (a0.Path)).bind fun x8 =>
      bif a0.Asks then
        (cat x8 ([63] : Bytes)).bind fun x9 =>
        (cat x9 (a0.Query)).bind fun x10 =>
        some x10
      else
        some x8
  else
    bif a0.Asks then
      (cat (a0.Path) ([63] : Bytes)).bind fun x11 =>
      (cat x11 (a0.Query)).bind fun x12 =>
      some x12
    else
      some (a0.Path)

noncomputable def intarsiaref05_host_b1 (a0 : Bytes) (s1 : Int) : Option (Int ⊕ Bool) :=
  bif (decide (s1 < (a0.length : Int))) then
    (idx a0 s1).bind fun x2 =>
    (intarsiaref05_find ([97, 98, 99, 100, 101, 102, 103, 104, 105, 106, 107, 108, 109, 110, 111, 112, 113, 114, 115, 116, 117, 118, 119, 120, 121, 122, 48, 49, 50, 51, 52, 53, 54, 55, 56, 57, 45, 46] : Bytes) (x2.toNat : Int)).bind fun x3 =>
    bif (decide (x3 < (0 : Int))) then
      some (.inr false)
    else
      some (.inl (IntKind.i64.wrap (s1 + (1 : Int))))
  else
    some (.inr (bif (decide ((a0.length : Int) > (0 : Int))) then (decide ((a0.length : Int) ≤ (100 : Int))) else false))
noncomputable def intarsiaref05_host (a0 : Bytes) : Option Bool :=
  loopO (intarsiaref05_host_b1 a0) (0 : Int)

noncomputable def intarsiaref05_begins (a0 : Bytes) (a1 : Bytes) : Option Bool :=
  (gslc (decide ((a0.length : Int) ≥ (a1.length : Int))) a0 0 (a1.length : Int)).bind fun x1 =>
  some (bif (decide ((a0.length : Int) ≥ (a1.length : Int))) then (x1 == a1) else false)

noncomputable def intarsiaref05_Right (a0 : S_Uri) : Option Bool :=
  (gcall (!(bif (decide ((a0.Port) < (0 : Int))) then true else (decide ((a0.Port) > (65535 : Int))))) (intarsiaref05_Bytes (a0.Path))).bind fun x1 =>
  (gcall (!(bif (bif (decide ((a0.Port) < (0 : Int))) then true else (decide ((a0.Port) > (65535 : Int)))) then true else (!x1))) (intarsiaref05_Bytes (a0.Query))).bind fun x2 =>
  (gcall (!(bif (bif (bif (decide ((a0.Port) < (0 : Int))) then true else (decide ((a0.Port) > (65535 : Int)))) then true else (!x1)) then true else (!x2))) (intarsiaref05_find (a0.Path) (63 : Int))).bind fun x3 =>
  (gcall (!(bif (bif (bif (bif (bif (decide ((a0.Port) < (0 : Int))) then true else (decide ((a0.Port) > (65535 : Int)))) then true else (!x1)) then true else (!x2)) then true else (decide (x3 ≥ (0 : Int)))) then true else (bif (!(a0.Asks)) then (!(a0.Query == ([] : Bytes))) else false))) (intarsiaref05_Write a0)).bind fun x4 =>
  bif (bif (bif (bif (bif (bif (bif (decide ((a0.Port) < (0 : Int))) then true else (decide ((a0.Port) > (65535 : Int)))) then true else (!x1)) then true else (!x2)) then true else (decide (x3 ≥ (0 : Int)))) then true else (bif (!(a0.Asks)) then (!(a0.Query == ([] : Bytes))) else false)) then true else (decide ((x4.length : Int) > (500 : Int)))) then
    some false
  else
    bif a0.Abs then
      (intarsiaref05_host (a0.Host)).bind fun x5 =>
      (gcall x5 (intarsiaref05_begins (a0.Path) ([47] : Bytes))).bind fun x6 =>
      some (bif x5 then x6 else false)
    else
      (intarsiaref05_find (a0.Path) (58 : Int)).bind fun x7 =>
      (intarsiaref05_find (a0.Path) (47 : Int)).bind fun x8 =>
      bif (bif (decide (x7 ≥ (0 : Int))) then (bif (decide (x8 < (0 : Int))) then true else (decide (x7 < x8))) else false) then
        some false
      else
        (gcall (bif (a0.Host == ([] : Bytes)) then ((a0.Port) == (0 : Int)) else false) (intarsiaref05_begins (a0.Path) ([47, 47] : Bytes))).bind fun x9 =>
        some (bif (bif (a0.Host == ([] : Bytes)) then ((a0.Port) == (0 : Int)) else false) then (!x9) else false)

noncomputable def intarsiaref21_host (a0 : Bytes) : Option Bool :=
  (intarsiaref05_Right (S_Uri.mk true a0 (0 : Int) ([47] : Bytes) false ([] : Bytes))).bind fun x1 =>
  some x1

noncomputable def intarsiaref21_Right_b2 (a0 : (List S_Route)) (s1 : Int) (x2 : S_Route) (s6 : Int) : Option (Int ⊕ (Int ⊕ Bool)) :=
  bif (decide (s6 < s1)) then
    (idx a0 s6).bind fun x7 =>
    (gidx (x7.Host == x2.Host) a0 s6).bind fun x8 =>
    bif (bif (x7.Host == x2.Host) then (x8.Prefix == x2.Prefix) else false) then
      some (.inr (.inr false))
    else
      some (.inl (IntKind.i64.wrap (s6 + (1 : Int))))
  else
    some (.inr (.inl (IntKind.i64.wrap (s1 + (1 : Int)))))
noncomputable def intarsiaref21_Right_b1 (a0 : (List S_Route)) (s1 : Int) : Option (Int ⊕ Bool) :=
  bif (decide (s1 < (a0.length : Int))) then
    (idx a0 s1).bind fun x2 =>
    (gcall (!(x2.Host == ([] : Bytes))) (intarsiaref21_host (x2.Host))).bind fun x3 =>
    (gcall (!(bif (!(x2.Host == ([] : Bytes))) then (!x3) else false)) (intarsiaref21_host (x2.Origin))).bind fun x4 =>
    (gcall (!(bif (bif (bif (!(x2.Host == ([] : Bytes))) then (!x3) else false) then true else (!x4)) then true else (decide (((x2.Prefix).length : Int) > (100 : Int))))) (intarsiaref05_Right (S_Uri.mk true ([104] : Bytes) (0 : Int) (x2.Prefix) false ([] : Bytes)))).bind fun x5 =>
    bif (bif (bif (bif (bif (!(x2.Host == ([] : Bytes))) then (!x3) else false) then true else (!x4)) then true else (decide (((x2.Prefix).length : Int) > (100 : Int)))) then true else (!x5)) then
      some (.inr false)
    else
      loopO (intarsiaref21_Right_b2 a0 s1 x2) (0 : Int)
  else
    some (.inr (decide ((a0.length : Int) ≤ (16 : Int))))
noncomputable def intarsiaref21_Right (a0 : (List S_Route)) : Option Bool :=
  loopO (intarsiaref21_Right_b1 a0) (0 : Int)

noncomputable def intarsiaref25_Right_b2 (a0 : S_Plan) (s4 : Int) : Option (Int ⊕ (Int ⊕ Bool)) :=
  bif (decide (s4 < ((a0.Routes).length : Int))) then
    (idx (a0.Routes) s4).bind fun x5 =>
    bif (x5.Host == ([45] : Bytes)) then
      some (.inr (.inr false))
    else
      some (.inl (IntKind.i64.wrap (s4 + (1 : Int))))
  else
    (intarsiaref25_device (a0.Device)).bind fun x6 =>
    (gcall x6 (intarsiaref21_Right (a0.Routes))).bind fun x7 =>
    some (.inr (.inr (bif (bif x6 then x7 else false) then (decide (((a0.Deeds).length : Int) ≤ (200 : Int))) else false)))
noncomputable def intarsiaref25_Right_b1 (a0 : S_Plan) (s1 : Int) : Option (Int ⊕ Bool) :=
  bif (decide (s1 < ((a0.Deeds).length : Int))) then
    (idx (a0.Deeds) s1).bind fun x2 =>
    (intarsiaref25_IsDeed x2).bind fun x3 =>
    bif (!x3) then
      some (.inr false)
    else
      some (.inl (IntKind.i64.wrap (s1 + (1 : Int))))
  else
    loopO (intarsiaref25_Right_b2 a0) (0 : Int)
noncomputable def intarsiaref25_Right (a0 : S_Plan) : Option Bool :=
  loopO (intarsiaref25_Right_b1 a0) (0 : Int)

noncomputable def intarsiaref25_Way (a0 : S_Route) : Option Bytes :=
  bif (a0.Host == ([] : Bytes)) then
    (cat ([114, 111, 117, 116, 101, 32, 45, 32] : Bytes) (a0.Prefix)).bind fun x1 =>
    (cat x1 ([32] : Bytes)).bind fun x2 =>
    (cat x2 (a0.Origin)).bind fun x3 =>
    some x3
  else
    (cat ([114, 111, 117, 116, 101, 32] : Bytes) (a0.Host)).bind fun x4 =>
    (cat x4 ([32] : Bytes)).bind fun x5 =>
    (cat x5 (a0.Prefix)).bind fun x6 =>
    (cat x6 ([32] : Bytes)).bind fun x7 =>
    (cat x7 (a0.Origin)).bind fun x8 =>
    some x8

noncomputable def intarsiaref25_word_b1 (a0 : Bytes) (x : ((List UInt8) × Int)) : Option (((List UInt8) × Int) ⊕ (List UInt8)) :=
  match x with
  | (s2, s3) =>
    bif (decide (s3 < (a0.length : Int))) then
      (idx a0 s3).bind fun x4 =>
      chk (((16 : Int) == 0) = false) <|
      (idx ([48, 49, 50, 51, 52, 53, 54, 55, 56, 57, 97, 98, 99, 100, 101, 102] : Bytes) (IntKind.u8.wrap ((x4.toNat : Int).tdiv (16 : Int)))).bind fun x6 =>
      (idx a0 s3).bind fun x7 =>
      chk (((16 : Int) == 0) = false ∧ IntKind.u8.wrap ((x7.toNat : Int).tmod (16 : Int)) = (x7.toNat : Int).tmod (16 : Int)) <|
      (idx ([48, 49, 50, 51, 52, 53, 54, 55, 56, 57, 97, 98, 99, 100, 101, 102] : Bytes) ((x7.toNat : Int).tmod (16 : Int))).bind fun x9 =>
      (app 1 s2 ([u8 (x6.toNat : Int), u8 (x9.toNat : Int)] : List UInt8)).bind fun x10 =>
      some (.inl (x10, (IntKind.i64.wrap (s3 + (1 : Int)))))
    else
      some (.inr s2)
noncomputable def intarsiaref25_word (a0 : Bytes) : Option Bytes :=
  bif (a0 == ([] : Bytes)) then
    some ([32, 45] : Bytes)
  else
    (loopO (intarsiaref25_word_b1 a0) (([u8 (32 : Int)] : List UInt8), (0 : Int)) : Option (List UInt8)).bind fun j1 =>
    some j1

noncomputable def intarsiaref25_Line (a0 : S_Deed) : Option Bytes :=
  (strconv_Itoa (a0.At)).bind fun x1 =>
  (cat ([32] : Bytes) x1).bind fun x2 =>
  bif ((a0.Kind) == (1 : Int)) then
    (intarsiaref25_word (a0.Bytes)).bind fun x3 =>
    (cat ([105, 110] : Bytes) x3).bind fun x4 =>
    some x4
  else
    bif ((a0.Kind) == (2 : Int)) then
      (cat ([119, 114, 105, 116, 101] : Bytes) x2).bind fun x5 =>
      some x5
    else
      bif ((a0.Kind) == (3 : Int)) then
        some ([108, 101, 102, 116] : Bytes)
      else
        bif ((a0.Kind) == (4 : Int)) then
          (cat ([99, 97, 109, 101] : Bytes) x2).bind fun x6 =>
          (intarsiaref25_word (a0.Bytes)).bind fun x7 =>
          (cat x6 x7).bind fun x8 =>
          some x8
        else
          bif ((a0.Kind) == (5 : Int)) then
            bif a0.Clean then
              (cat ([103, 111, 110, 101] : Bytes) x2).bind fun x9 =>
              (cat x9 ([32, 99, 108, 101, 97, 110] : Bytes)).bind fun x10 =>
              some x10
            else
              (cat ([103, 111, 110, 101] : Bytes) x2).bind fun x11 =>
              (cat x11 ([32, 116, 111, 114, 110] : Bytes)).bind fun x12 =>
              some x12
          else
            some ([116, 105, 99, 107] : Bytes)

noncomputable def intarsiaref25_Text_b1 (a0 : S_Plan) (x : (Bytes × Int)) : Option ((Bytes × Int) ⊕ Bytes) :=
  match x with
  | (s4, s5) =>
    bif (decide (s5 < ((a0.Routes).length : Int))) then
      (idx (a0.Routes) s5).bind fun x6 =>
      (intarsiaref25_Way x6).bind fun x7 =>
      (cat s4 x7).bind fun x8 =>
      (cat x8 ([10] : Bytes)).bind fun x9 =>
      some (.inl (x9, (IntKind.i64.wrap (s5 + (1 : Int)))))
    else
      some (.inr s4)
noncomputable def intarsiaref25_Text_b2 (a0 : S_Plan) (x : (Bytes × Int)) : Option ((Bytes × Int) ⊕ Bytes) :=
  match x with
  | (s11, s12) =>
    bif (decide (s12 < ((a0.Deeds).length : Int))) then
      (idx (a0.Deeds) s12).bind fun x13 =>
      (intarsiaref25_Line x13).bind fun x14 =>
      (cat s11 x14).bind fun x15 =>
      (cat x15 ([10] : Bytes)).bind fun x16 =>
      some (.inl (x16, (IntKind.i64.wrap (s12 + (1 : Int)))))
    else
      some (.inr s11)
noncomputable def intarsiaref25_Text (a0 : S_Plan) : Option Bytes :=
  (cat ([100, 101, 118, 105, 99, 101, 32] : Bytes) (a0.Device)).bind fun x1 =>
  (cat x1 ([10] : Bytes)).bind fun x2 =>
  (loopO (intarsiaref25_Text_b1 a0) (x2, (0 : Int)) : Option Bytes).bind fun j3 =>
  (loopO (intarsiaref25_Text_b2 a0) (j3, (0 : Int)) : Option Bytes).bind fun j10 =>
  some j10

noncomputable def intarsialaw25_ScriptPrints (a0 : S_Plan) : Option Bool :=
  (intarsialaw25_few a0).bind fun x1 =>
  (script_Print x1).bind fun x2 =>
  (intarsiaref25_Right x1).bind fun x3 =>
  bif (!x3) then
    (intarsialaw25_alive).bind fun x4 =>
    (gcall x4 (script_Right x1)).bind fun x5 =>
    some (bif (bif (bif x4 then (!x5) else false) then ((x2.2) == (1 : Int)) else false) then (x2.1 == ([] : Bytes)) else false)
  else
    (intarsialaw25_alive).bind fun x6 =>
    (gcall x6 (script_Right x1)).bind fun x7 =>
    (gcall (bif (bif x6 then x7 else false) then ((x2.2) == (0 : Int)) else false) (intarsiaref25_Text x1)).bind fun x8 =>
    some (bif (bif (bif x6 then x7 else false) then ((x2.2) == (0 : Int)) else false) then (x2.1 == x8) else false)

end Go.Proofs.YtkfoahoplndelaaGreatDoor
