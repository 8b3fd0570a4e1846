/-
  The plain images of the functions, written by a program of mine (gen.py) off the translation.
-/
import Derived.Test.YtkfoahoplndelaaGreatDoorIm1
import Derived.Test.YtkfoahoplndelaaGreatDoorIm2
import Derived.Test.YtkfoahoplndelaaGreatDoorGi2
namespace Go.Proofs.YtkfoahoplndelaaGreatDoor
open Go Go.Pm
set_option linter.unusedVariables false

noncomputable def intarsiaref25_cut_b1 (a0 : Bytes) (a1 : Int) (s1 : Int) : Option (Int ⊕ (Bytes × Bytes × Bool)) :=
  bif (decide (s1 < (a0.length : Int))) then
    (idx a0 s1).bind fun x2 =>
    bif ((x2.toNat : Int) == a1) then
      (slc a0 0 s1).bind fun x3 =>
      (slc a0 (IntKind.i64.wrap (s1 + (1 : Int))) (a0.length : Int)).bind fun x4 =>
      some (.inr (x3, x4, true))
    else
      some (.inl (IntKind.i64.wrap (s1 + (1 : Int))))
  else
    some (.inr (a0, ([] : Bytes), false))
noncomputable def intarsiaref25_cut (a0 : Bytes) (a1 : Int) : Option (Bytes × Bytes × Bool) :=
  loopO (intarsiaref25_cut_b1 a0 a1) (0 : Int)

noncomputable def intarsiaref25_split_b1 (x : (Bytes × (List Bytes))) : Option ((Bytes × (List Bytes)) ⊕ (List Bytes)) :=
  match x with
  | (s2, s3) =>
    (intarsiaref25_cut s2 (32 : Int)).bind fun x4 =>
    (app 16 s3 ([(x4.1)] : List Bytes)).bind fun x5 =>
    bif (!(x4.2.2)) then
      some (.inr x5)
    else
      some (.inl ((x4.2.1), x5))
noncomputable def intarsiaref25_split_b2 (s7 : (List Bytes)) : Option ((List Bytes) ⊕ (List Bytes)) :=
  bif (decide ((s7.length : Int) < (4 : Int))) then
    (app 16 s7 ([([] : Bytes)] : List Bytes)).bind fun x8 =>
    some (.inl x8)
  else
    some (.inr s7)
noncomputable def intarsiaref25_split (a0 : Bytes) : Option (List Bytes) :=
  (loopO (intarsiaref25_split_b1) (a0, ([] : List Bytes)) : Option (List Bytes)).bind fun j1 =>
  (loopO (intarsiaref25_split_b2) j1 : Option (List Bytes)).bind fun j6 =>
  some j6

noncomputable def intarsiaref25_digit (a0 : Int) : Option Int :=
  bif (bif (decide (a0 ≥ (97 : Int))) then (decide (a0 ≤ (102 : Int))) else false) then
    some (IntKind.u8.wrap ((IntKind.u8.wrap (a0 - (97 : Int))) + (10 : Int)))
  else
    chk (((16 : Int) == 0) = false ∧ IntKind.u8.wrap (a0.tmod (16 : Int)) = a0.tmod (16 : Int)) <|
    some (a0.tmod (16 : Int))

noncomputable def intarsiaref25_bytes_b1 (a0 : Bytes) (x : ((List UInt8) × Int)) : Option (((List UInt8) × Int) ⊕ (List UInt8)) :=
  match x with
  | (s2, s3) =>
    bif (decide ((IntKind.i64.wrap (s3 + (1 : Int))) < (a0.length : Int))) then
      (idx a0 s3).bind fun x4 =>
      (intarsiaref25_digit (x4.toNat : Int)).bind fun x5 =>
      (idx a0 (IntKind.i64.wrap (s3 + (1 : Int)))).bind fun x6 =>
      (intarsiaref25_digit (x6.toNat : Int)).bind fun x7 =>
      (app 1 s2 ([u8 (IntKind.u8.wrap ((IntKind.u8.wrap ((16 : Int) * x5)) + x7))] : List UInt8)).bind fun x8 =>
      some (.inl (x8, (IntKind.i64.wrap (s3 + (2 : Int)))))
    else
      some (.inr s2)
noncomputable def intarsiaref25_bytes (a0 : Bytes) : Option Bytes :=
  (loopO (intarsiaref25_bytes_b1 a0) (([] : List UInt8), (0 : Int)) : Option (List UInt8)).bind fun j1 =>
  some j1

noncomputable def intarsiaref25_value_b1 (a0 : Bytes) (x : (Int × Int)) : Option ((Int × Int) ⊕ Int) :=
  match x with
  | (s1, s2) =>
    bif (decide (s2 < (a0.length : Int))) then
      (idx a0 s2).bind fun x3 =>
      bif (bif (bif (decide ((x3.toNat : Int) < (48 : Int))) then true else (decide ((x3.toNat : Int) > (57 : Int)))) then true else (decide (s1 > (1000000 : Int)))) then
        some (.inr (0 : Int))
      else
        some (.inl ((IntKind.i64.wrap ((IntKind.i64.wrap ((10 : Int) * s1)) + (IntKind.i64.wrap (IntKind.u8.wrap ((x3.toNat : Int) - (48 : Int)))))), (IntKind.i64.wrap (s2 + (1 : Int)))))
    else
      some (.inr s1)
noncomputable def intarsiaref25_value (a0 : Bytes) : Option Int :=
  loopO (intarsiaref25_value_b1 a0) ((0 : Int), (0 : Int))

noncomputable def intarsiaref25_Deed (a0 : Bytes) : Option S_Deed :=
  (intarsiaref25_split a0).bind fun x1 =>
  (idx x1 (0 : Int)).bind fun x2 =>
  bif (x2 == ([105, 110] : Bytes)) then
    (idx x1 (1 : Int)).bind fun x3 =>
    (intarsiaref25_bytes x3).bind fun x4 =>
    some (S_Deed.mk (1 : Int) (0 : Int) x4 false)
  else
    bif (x2 == ([119, 114, 105, 116, 101] : Bytes)) then
      (idx x1 (1 : Int)).bind fun x5 =>
      (intarsiaref25_value x5).bind fun x6 =>
      some (S_Deed.mk (2 : Int) x6 ([] : Bytes) false)
    else
      bif (x2 == ([108, 101, 102, 116] : Bytes)) then
        some (S_Deed.mk (3 : Int) (0 : Int) ([] : Bytes) false)
      else
        bif (x2 == ([99, 97, 109, 101] : Bytes)) then
          (idx x1 (1 : Int)).bind fun x7 =>
          (intarsiaref25_value x7).bind fun x8 =>
          (idx x1 (2 : Int)).bind fun x9 =>
          (intarsiaref25_bytes x9).bind fun x10 =>
          some (S_Deed.mk (4 : Int) x8 x10 false)
        else
          bif (x2 == ([103, 111, 110, 101] : Bytes)) then
            (idx x1 (1 : Int)).bind fun x11 =>
            (intarsiaref25_value x11).bind fun x12 =>
            (idx x1 (2 : Int)).bind fun x13 =>
            some (S_Deed.mk (5 : Int) x12 ([] : Bytes) (x13 == ([99, 108, 101, 97, 110] : Bytes)))
          else
            bif (x2 == ([116, 105, 99, 107] : Bytes)) then
              some (S_Deed.mk (6 : Int) (0 : Int) ([] : Bytes) false)
            else
              some (S_Deed.mk (0 : Int) (0 : Int) ([] : Bytes) false)

noncomputable def intarsiaref25_Parse_b1 (x : (Bytes × Int × S_Plan)) : Option ((Bytes × Int × S_Plan) ⊕ (S_Plan × Int × Int)) :=
  match x with
  | (s1, s2, s3) =>
    bif (bif (s2 == (1 : Int)) then true else (!(s1 == ([] : Bytes)))) then
      (intarsiaref25_cut s1 (10 : Int)).bind fun x4 =>
      (intarsiaref25_split (x4.1)).bind fun x5 =>
      (idx x5 (1 : Int)).bind fun x6 =>
      (idx x5 (2 : Int)).bind fun x7 =>
      (idx x5 (3 : Int)).bind fun x8 =>
      bif (x6 == ([45] : Bytes)) then
        bif (s2 == (1 : Int)) then
          (idx x5 (1 : Int)).bind fun x9 =>
          (gidx x4.2.2 x5 (1 : Int)).bind fun x10 =>
          (gcall (x4.2.2) (intarsiaref25_device x10)).bind fun x11 =>
          (gidx (bif x4.2.2 then x11 else false) x5 (1 : Int)).bind fun x12 =>
          (gcat (bif x4.2.2 then x11 else false) ([100, 101, 118, 105, 99, 101, 32] : Bytes) x12).bind fun x13 =>
          bif (!(bif (bif x4.2.2 then x11 else false) then (x4.1 == x13) else false)) then
            some (.inr ((S_Plan.mk ([] : Bytes) ([] : List S_Route) ([] : List S_Deed)), (250 : Int), s2))
          else
            some (.inl ((x4.2.1), (IntKind.i64.wrap (s2 + (1 : Int))), (S_Plan.mk x9 (s3.Routes) (s3.Deeds))))
        else
          (intarsiaref25_Way (S_Route.mk ([] : Bytes) x7 x8)).bind fun x14 =>
          bif (bif (x14 == x4.1) then (((s3.Deeds).length : Int) == (0 : Int)) else false) then
            (app 48 (s3.Routes) ([(S_Route.mk ([] : Bytes) x7 x8)] : List S_Route)).bind fun x15 =>
            (gcall (x4.2.2) (intarsiaref21_Right x15)).bind fun x16 =>
            bif (!(bif x4.2.2 then x16 else false)) then
              some (.inr ((S_Plan.mk ([] : Bytes) ([] : List S_Route) ([] : List S_Deed)), (250 : Int), s2))
            else
              some (.inl ((x4.2.1), (IntKind.i64.wrap (s2 + (1 : Int))), (S_Plan.mk (s3.Device) x15 (s3.Deeds))))
          else
            (intarsiaref25_Deed (x4.1)).bind fun x17 =>
            (app 40 (s3.Deeds) ([x17] : List S_Deed)).bind fun x18 =>
            (gcall (bif x4.2.2 then (decide ((x18.length : Int) ≤ (200 : Int))) else false) (intarsiaref25_IsDeed x17)).bind fun x19 =>
            (gcall (bif (bif x4.2.2 then (decide ((x18.length : Int) ≤ (200 : Int))) else false) then x19 else false) (intarsiaref25_Line x17)).bind fun x20 =>
            bif (!(bif (bif (bif x4.2.2 then (decide ((x18.length : Int) ≤ (200 : Int))) else false) then x19 else false) then (x20 == x4.1) else false)) then
              some (.inr ((S_Plan.mk ([] : Bytes) ([] : List S_Route) ([] : List S_Deed)), (250 : Int), s2))
            else
              some (.inl ((x4.2.1), (IntKind.i64.wrap (s2 + (1 : Int))), (S_Plan.mk (s3.Device) (s3.Routes) x18)))
      else
        bif (s2 == (1 : Int)) then
          (idx x5 (1 : Int)).bind fun x21 =>
          (gidx x4.2.2 x5 (1 : Int)).bind fun x22 =>
          (gcall (x4.2.2) (intarsiaref25_device x22)).bind fun x23 =>
          (gidx (bif x4.2.2 then x23 else false) x5 (1 : Int)).bind fun x24 =>
          (gcat (bif x4.2.2 then x23 else false) ([100, 101, 118, 105, 99, 101, 32] : Bytes) x24).bind fun x25 =>
          bif (!(bif (bif x4.2.2 then x23 else false) then (x4.1 == x25) else false)) then
            some (.inr ((S_Plan.mk ([] : Bytes) ([] : List S_Route) ([] : List S_Deed)), (250 : Int), s2))
          else
            some (.inl ((x4.2.1), (IntKind.i64.wrap (s2 + (1 : Int))), (S_Plan.mk x21 (s3.Routes) (s3.Deeds))))
        else
          (intarsiaref25_Way (S_Route.mk x6 x7 x8)).bind fun x26 =>
          bif (bif (x26 == x4.1) then (((s3.Deeds).length : Int) == (0 : Int)) else false) then
            (app 48 (s3.Routes) ([(S_Route.mk x6 x7 x8)] : List S_Route)).bind fun x27 =>
            (gcall (x4.2.2) (intarsiaref21_Right x27)).bind fun x28 =>
            bif (!(bif x4.2.2 then x28 else false)) then
              some (.inr ((S_Plan.mk ([] : Bytes) ([] : List S_Route) ([] : List S_Deed)), (250 : Int), s2))
            else
              some (.inl ((x4.2.1), (IntKind.i64.wrap (s2 + (1 : Int))), (S_Plan.mk (s3.Device) x27 (s3.Deeds))))
          else
            (intarsiaref25_Deed (x4.1)).bind fun x29 =>
            (app 40 (s3.Deeds) ([x29] : List S_Deed)).bind fun x30 =>
            (gcall (bif x4.2.2 then (decide ((x30.length : Int) ≤ (200 : Int))) else false) (intarsiaref25_IsDeed x29)).bind fun x31 =>
            (gcall (bif (bif x4.2.2 then (decide ((x30.length : Int) ≤ (200 : Int))) else false) then x31 else false) (intarsiaref25_Line x29)).bind fun x32 =>
            bif (!(bif (bif (bif x4.2.2 then (decide ((x30.length : Int) ≤ (200 : Int))) else false) then x31 else false) then (x32 == x4.1) else false)) then
              some (.inr ((S_Plan.mk ([] : Bytes) ([] : List S_Route) ([] : List S_Deed)), (250 : Int), s2))
            else
              some (.inl ((x4.2.1), (IntKind.i64.wrap (s2 + (1 : Int))), (S_Plan.mk (s3.Device) (s3.Routes) x30)))
    else
      some (.inr ((S_Plan.mk (s3.Device) (s3.Routes) (s3.Deeds)), (0 : Int), (0 : Int)))
noncomputable def intarsiaref25_Parse (a0 : Bytes) : Option (S_Plan × Int × Int) :=
  loopO (intarsiaref25_Parse_b1) (a0, (1 : Int), (S_Plan.mk ([] : Bytes) ([] : List S_Route) ([] : List S_Deed)))

noncomputable def intarsialaw25_ScriptReads (a0 : Bytes) : Option Bool :=
  (slc a0 0 (imin (a0.length : Int) (9000 : Int))).bind fun x1 =>
  (script_Parse x1).bind fun x2 =>
  (intarsiaref25_Parse x1).bind fun x3 =>
  (intarsialaw25_alive).bind fun x4 =>
  (gcall (bif (bif x4 then ((x2.2.1) == (x3.2.1)) else false) then ((x2.2.2) == (x3.2.2)) else false) (intarsiaref25_Like (x2.1) (x3.1))).bind fun x5 =>
  some (bif (bif (bif x4 then ((x2.2.1) == (x3.2.1)) else false) then ((x2.2.2) == (x3.2.2)) else false) then x5 else false)

end Go.Proofs.YtkfoahoplndelaaGreatDoor
