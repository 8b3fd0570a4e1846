/-
  The plain images of the functions, written by a program of mine (gen.py) off the translation.
-/
import Derived.Test.YtkfoahoplndelaaGreatDoorGi1
namespace Go.Proofs.YtkfoahoplndelaaGreatDoor
open Go Go.Pm
set_option linter.unusedVariables false

structure S_Route where
  Host : Bytes
  Prefix : Bytes
  Origin : Bytes
instance : Inhabited S_Route := ⟨⟨default, default, default⟩⟩
def S_Route.cells (x : S_Route) : List AV := [AV.str (x.Host), AV.str (x.Prefix), AV.str (x.Origin)]
def S_Route.av (x : S_Route) : AV := .agg (S_Route.cells x)

structure S_Deed where
  Kind : Int
  At : Int
  Bytes : Bytes
  Clean : Bool
instance : Inhabited S_Deed := ⟨⟨default, default, default, default⟩⟩
def S_Deed.cells (x : S_Deed) : List AV := [AV.int .i64 (x.Kind), AV.int .i64 (x.At), AV.str (x.Bytes), AV.bool (x.Clean)]
def S_Deed.av (x : S_Deed) : AV := .agg (S_Deed.cells x)

structure S_Plan where
  Device : Bytes
  Routes : (List S_Route)
  Deeds : (List S_Deed)
instance : Inhabited S_Plan := ⟨⟨default, default, default⟩⟩
def S_Plan.cells (x : S_Plan) : List AV := [AV.str (x.Device), AV.list 3 ((x.Routes).map S_Route.av), AV.list 4 ((x.Deeds).map S_Deed.av)]
def S_Plan.av (x : S_Plan) : AV := .agg (S_Plan.cells x)

structure S_route_key where
  host : Bytes
  prefix_ : Bytes
instance : Inhabited S_route_key := ⟨⟨default, default⟩⟩
def S_route_key.cells (x : S_route_key) : List AV := [AV.str (x.host), AV.str (x.prefix_)]
def S_route_key.av (x : S_route_key) : AV := .agg (S_route_key.cells x)

structure S_Uri where
  Abs : Bool
  Host : Bytes
  Port : Int
  Path : Bytes
  Asks : Bool
  Query : Bytes
instance : Inhabited S_Uri := ⟨⟨default, default, default, default, default, default⟩⟩
def S_Uri.cells (x : S_Uri) : List AV := [AV.bool (x.Abs), AV.str (x.Host), AV.int .i64 (x.Port), AV.str (x.Path), AV.bool (x.Asks), AV.str (x.Query)]
def S_Uri.av (x : S_Uri) : AV := .agg (S_Uri.cells x)

instance : BEq S_route_key := ⟨fun x y => (x.host == y.host && (x.prefix_ == y.prefix_ && true))⟩

noncomputable def intarsialaw25_few_b1 (x2 : (List S_Route)) (x : (Int × (List S_Route))) : Option ((Int × (List S_Route)) ⊕ (List S_Route)) :=
  match x with
  | (s5, s6) =>
    bif (decide (s5 < ((x2.length : Nat) : Int))) then
      chk (0 ≤ s5 ∧ s5 < (x2.length : Int)) <|
      (idx s6 s5).bind fun x8 =>
      (slc (x8.Host) 0 (imin ((x8.Host).length : Int) (120 : Int))).bind fun x9 =>
      (slc (x8.Prefix) 0 (imin ((x8.Prefix).length : Int) (120 : Int))).bind fun x10 =>
      (slc (x8.Origin) 0 (imin ((x8.Origin).length : Int) (120 : Int))).bind fun x11 =>
      chk (0 ≤ s5 ∧ s5 < (x2.length : Int)) <|
      (seti s6 s5 (S_Route.mk x9 x10 x11)).bind fun x13 =>
      some (.inl ((IntKind.i64.wrap (s5 + (1 : Int))), x13))
    else
      some (.inr s6)
noncomputable def intarsialaw25_few_b2 (x14 : (List S_Deed)) (x : (Int × (List S_Deed))) : Option ((Int × (List S_Deed)) ⊕ (List S_Deed)) :=
  match x with
  | (s17, s18) =>
    bif (decide (s17 < ((x14.length : Nat) : Int))) then
      chk (0 ≤ s17 ∧ s17 < (x14.length : Int)) <|
      (idx s18 s17).bind fun x20 =>
      (slc (x20.Bytes) 0 (imin ((x20.Bytes).length : Int) (3010 : Int))).bind fun x21 =>
      chk (0 ≤ s17 ∧ s17 < (x14.length : Int)) <|
      (idx s18 s17).bind fun x23 =>
      some (.inl ((IntKind.i64.wrap (s17 + (1 : Int))), (s18.set s17.toNat (S_Deed.mk (x23.Kind) (x23.At) x21 (x23.Clean)))))
    else
      some (.inr s18)
noncomputable def intarsialaw25_few (a0 : S_Plan) : Option S_Plan :=
  (slc (a0.Device) 0 (imin ((a0.Device).length : Int) (60 : Int))).bind fun x1 =>
  (slc (a0.Routes) 0 (imin ((a0.Routes).length : Int) (20 : Int))).bind fun x2 =>
  chk (x2.length ≤ maxLen ∧ x2.length * 48 ≤ 140737488355328) <|
  (loopO (intarsialaw25_few_b1 x2) ((0 : Int), x2) : Option (List S_Route)).bind fun j4 =>
  (slc (a0.Deeds) 0 (imin ((a0.Deeds).length : Int) (205 : Int))).bind fun x14 =>
  chk (x14.length ≤ maxLen ∧ x14.length * 40 ≤ 140737488355328) <|
  (loopO (intarsialaw25_few_b2 x14) ((0 : Int), x14) : Option (List S_Deed)).bind fun j16 =>
  chk (x14.length ≤ j16.length) (chk (x2.length ≤ j4.length) (some (S_Plan.mk x1 (j4.take (x2.length)) (j16.take (x14.length)))))

noncomputable def stringslite_IndexByte (a0 : Bytes) (a1 : Int) : Option Int :=
  (bytealg_IndexByteString a0 a1).bind fun x1 =>
  some x1

noncomputable def strings_IndexByte (a0 : Bytes) (a1 : Int) : Option Int :=
  (stringslite_IndexByte a0 a1).bind fun x1 =>
  some x1

noncomputable def text_tokens_b1 (x : (Int × (List Bool))) : Option ((Int × (List Bool)) ⊕ (List Bool)) :=
  match x with
  | (s2, s3) =>
    bif (decide (s2 < (256 : Int))) then
      (gcall (!(bif (bif (bif (decide ((IntKind.u8.wrap s2) ≥ (97 : Int))) then (decide ((IntKind.u8.wrap s2) ≤ (122 : Int))) else false) then true else (bif (decide ((IntKind.u8.wrap s2) ≥ (65 : Int))) then (decide ((IntKind.u8.wrap s2) ≤ (90 : Int))) else false)) then true else (bif (decide ((IntKind.u8.wrap s2) ≥ (48 : Int))) then (decide ((IntKind.u8.wrap s2) ≤ (57 : Int))) else false))) (strings_IndexByte ([33, 35, 36, 37, 38, 39, 42, 43, 45, 46, 94, 95, 124, 126, 96] : Bytes) (IntKind.u8.wrap s2))).bind fun x4 =>
      chk (0 ≤ s2 ∧ s2 < 256) <|
      (seti s3 s2 (bif (bif (bif (bif (decide ((IntKind.u8.wrap s2) ≥ (97 : Int))) then (decide ((IntKind.u8.wrap s2) ≤ (122 : Int))) else false) then true else (bif (decide ((IntKind.u8.wrap s2) ≥ (65 : Int))) then (decide ((IntKind.u8.wrap s2) ≤ (90 : Int))) else false)) then true else (bif (decide ((IntKind.u8.wrap s2) ≥ (48 : Int))) then (decide ((IntKind.u8.wrap s2) ≤ (57 : Int))) else false)) then true else (decide (x4 ≥ (0 : Int))))).bind fun x6 =>
      some (.inl ((IntKind.i64.wrap (s2 + (1 : Int))), x6))
    else
      some (.inr s3)
noncomputable def text_tokens : Option (List Bool) :=
  (loopO (text_tokens_b1) ((0 : Int), (List.replicate 256 false)) : Option (List Bool)).bind fun j1 =>
  chk (0 < (j1).length) (some j1)

noncomputable def text_all_b1 (a0 : Bytes) (a1 : (List Bool)) (a2i : (List Bool) → Int → Option Bool) (s1 : Int) : Option (Int ⊕ Bool) :=
  bif (decide (s1 < (a0.length : Int))) then
    (idx a0 s1).bind fun x2 =>
    (a2i a1 (x2.toNat : Int)).bind fun x3 =>
    bif (!x3) then
      some (.inr false)
    else
      some (.inl (IntKind.i64.wrap (s1 + (1 : Int))))
  else
    some (.inr true)
noncomputable def text_all (a0 : Bytes) (a1 : (List Bool)) (a2i : (List Bool) → Int → Option Bool) : Option Bool :=
  loopO (text_all_b1 a0 a1 a2i) (0 : Int)

noncomputable def text_set_has (a0 : (List Bool)) (a1 : Int) : Option Bool :=
  chk (0 ≤ a1 ∧ a1 < 256) <|
  (idx a0 a1).bind fun x2 =>
  some x2

noncomputable def text_Token (a0 : Bytes) : Option Bool :=
  (gcall (!(a0 == ([] : Bytes))) (text_tokens)).bind fun x1 =>
  (gcall (!(a0 == ([] : Bytes))) (text_all a0 x1 (fun x0 x1 => text_set_has x0 x1))).bind fun x2 =>
  some (bif (!(a0 == ([] : Bytes))) then x2 else false)

noncomputable def script_device (a0 : Bytes) : Option Bool :=
  (text_Token a0).bind fun x1 =>
  some (bif x1 then (decide ((a0.length : Int) ≤ (40 : Int))) else false)

noncomputable def text_Lower_b1 (a0 : Bytes) (x : (Int × (List UInt8))) : Option ((Int × (List UInt8)) ⊕ (List UInt8)) :=
  match x with
  | (s2, s3) =>
    bif (decide (s2 < (((a0).length : Nat) : Int))) then
      chk (0 ≤ s2 ∧ s2 < ((a0).length : Int)) <|
      (idx s3 s2).bind fun x5 =>
      bif (bif (decide ((x5.toNat : Int) ≥ (65 : Int))) then (decide ((x5.toNat : Int) ≤ (90 : Int))) else false) then
        chk (0 ≤ s2 ∧ s2 < ((a0).length : Int)) <|
        (seti s3 s2 (u8 (IntKind.u8.wrap ((IntKind.u8.wrap ((x5.toNat : Int) + (97 : Int))) - (65 : Int))))).bind fun x7 =>
        some (.inl ((IntKind.i64.wrap (s2 + (1 : Int))), x7))
      else
        some (.inl ((IntKind.i64.wrap (s2 + (1 : Int))), s3))
    else
      some (.inr s3)
noncomputable def text_Lower (a0 : Bytes) : Option Bytes :=
  (loopO (text_Lower_b1 a0) ((0 : Int), a0) : Option (List UInt8)).bind fun j1 =>
  chk ((a0).length ≤ (j1).length) <|
  some ((j1).take ((a0).length))

noncomputable def text_Same (a0 : Bytes) (a1 : Bytes) : Option Bool :=
  (text_Lower a0).bind fun x1 =>
  (text_Lower a1).bind fun x2 =>
  some (x1 == x2)

noncomputable def unicode_utf8_ValidRune (a0 : Int) : Option Bool :=
  bif (bif (decide ((0 : Int) ≤ a0)) then (decide (a0 < (55296 : Int))) else false) then
    some true
  else
    bif (bif (decide ((57343 : Int) < a0)) then (decide (a0 ≤ (1114111 : Int))) else false) then
      some true
    else
      some false

noncomputable def strings_IndexRune_b1 (a0 : Bytes) (s2 : Nat) : Option (Nat ⊕ Int) :=
  bif (decide (s2 < a0.length)) then
    bif (((runeAt a0 s2 : Nat) : Int) == (65533 : Int)) then
      some (.inr ((s2 : Nat) : Int))
    else
      some (.inl (s2 + widthAt a0 s2))
  else
    some (.inr (-1 : Int))
noncomputable def strings_IndexRune_b3 (a0 : Bytes) (a1 : Int) (s4 : Int) (x9 : Int) (s10 : Int) : Option (Int ⊕ (Int ⊕ Int)) :=
  bif (decide (s10 < ((encB a1).length : Int))) then
    (idx a0 (IntKind.i64.wrap ((IntKind.i64.wrap (s4 + (IntKind.i64.wrap (x9 + (1 : Int))))) - s10))).bind fun x11 =>
    (idx (encB a1) (IntKind.i64.wrap ((IntKind.i64.wrap (((encB a1).length : Int) - (1 : Int))) - s10))).bind fun x12 =>
    bif ((x11.toNat : Int) != (x12.toNat : Int)) then
      none
    else
      some (.inl (IntKind.i64.wrap (s10 + (1 : Int))))
  else
    some (.inr (.inr (IntKind.i64.wrap ((IntKind.i64.wrap (s4 + (IntKind.i64.wrap (x9 + (1 : Int))))) - (IntKind.i64.wrap (((encB a1).length : Int) - (1 : Int)))))))
noncomputable def strings_IndexRune_b4 (a0 : Bytes) (a1 : Int) (s4 : Int) (s13 : Int) : Option (Int ⊕ (Int ⊕ Int)) :=
  bif (decide (s13 < ((encB a1).length : Int))) then
    (idx a0 (IntKind.i64.wrap (s4 - s13))).bind fun x14 =>
    (idx (encB a1) (IntKind.i64.wrap ((IntKind.i64.wrap (((encB a1).length : Int) - (1 : Int))) - s13))).bind fun x15 =>
    bif ((x14.toNat : Int) != (x15.toNat : Int)) then
      none
    else
      some (.inl (IntKind.i64.wrap (s13 + (1 : Int))))
  else
    some (.inr (.inr (IntKind.i64.wrap (s4 - (IntKind.i64.wrap (((encB a1).length : Int) - (1 : Int)))))))
noncomputable def strings_IndexRune_b2 (a0 : Bytes) (a1 : Int) (s4 : Int) : Option (Int ⊕ Int) :=
  bif (decide (s4 < (a0.length : Int))) then
    (idx a0 s4).bind fun x5 =>
    (idx (encB a1) (IntKind.i64.wrap (((encB a1).length : Int) - (1 : Int)))).bind fun x6 =>
    bif ((x5.toNat : Int) != (x6.toNat : Int)) then
      (slc a0 (IntKind.i64.wrap (s4 + (1 : Int))) (a0.length : Int)).bind fun x7 =>
      (idx (encB a1) (IntKind.i64.wrap (((encB a1).length : Int) - (1 : Int)))).bind fun x8 =>
      (strings_IndexByte x7 (x8.toNat : Int)).bind fun x9 =>
      bif (decide (x9 < (0 : Int))) then
        some (.inr (-1 : Int))
      else
        loopO (strings_IndexRune_b3 a0 a1 s4 x9) (1 : Int)
    else
      loopO (strings_IndexRune_b4 a0 a1 s4) (1 : Int)
  else
    some (.inr (-1 : Int))
noncomputable def strings_IndexRune (a0 : Bytes) (a1 : Int) : Option Int :=
  bif (bif (decide ((0 : Int) ≤ a1)) then (decide (a1 < (128 : Int))) else false) then
    (strings_IndexByte a0 (IntKind.u8.wrap a1)).bind fun x1 =>
    some x1
  else
    bif (a1 == (65533 : Int)) then
      loopO (strings_IndexRune_b1 a0) 0
    else
      (unicode_utf8_ValidRune a1).bind fun x3 =>
      bif (!x3) then
        some (-1 : Int)
      else
        loopO (strings_IndexRune_b2 a0 a1) (IntKind.i64.wrap (((encB a1).length : Int) - (1 : Int)))

noncomputable def strings_shouldUseASCIISet (a0 : Int) : Option Bool :=
  some (decide (a0 > (8 : Int)))

noncomputable def strings_makeASCIISet_b1 (a0 : Bytes) (x : (Int × (List Bool))) : Option ((Int × (List Bool)) ⊕ ((List Bool) × Bool)) :=
  match x with
  | (s1, s2) =>
    bif (decide (s1 < (a0.length : Int))) then
      (idx a0 s1).bind fun x3 =>
      bif (decide ((x3.toNat : Int) ≥ (128 : Int))) then
        chk ((s2).length = 256) <|
        chk ((s2).length = 256 ∧ (s2).length = 256) <|
        chk ((s2).length = 256) (some (.inr (s2, false)))
      else
        chk (0 ≤ (x3.toNat : Int) ∧ (x3.toNat : Int) < 256) <|
        (seti s2 (x3.toNat : Int) true).bind fun x7 =>
        some (.inl ((IntKind.i64.wrap (s1 + (1 : Int))), x7))
    else
      chk ((s2).length = 256) <|
      chk ((s2).length = 256 ∧ (s2).length = 256) <|
      chk ((s2).length = 256) (some (.inr (s2, true)))
noncomputable def strings_makeASCIISet (a0 : Bytes) : Option ((List Bool) × Bool) :=
  loopO (strings_makeASCIISet_b1 a0) ((0 : Int), (List.replicate 256 false))

noncomputable def strings_asciiSet_contains (a0 : (List Bool)) (a1 : Int) : Option Bool :=
  chk (0 ≤ a1 ∧ a1 < 256) <|
  (idx a0 a1).bind fun x2 =>
  some x2

noncomputable def strings_IndexAny_b1 (a0 : Bytes) (x5 : ((List Bool) × Bool)) (s7 : Int) : Option (Int ⊕ Int) :=
  bif (decide (s7 < (a0.length : Int))) then
    (idx a0 s7).bind fun x8 =>
    (strings_asciiSet_contains (x5.1) (x8.toNat : Int)).bind fun x9 =>
    bif x9 then
      some (.inr s7)
    else
      some (.inl (IntKind.i64.wrap (s7 + (1 : Int))))
  else
    some (.inr (-1 : Int))
noncomputable def strings_IndexAny_b2 (a0 : Bytes) (a1 : Bytes) (s10 : Nat) : Option (Nat ⊕ Int) :=
  bif (decide (s10 < a0.length)) then
    (strings_IndexRune a1 ((runeAt a0 s10 : Nat) : Int)).bind fun x11 =>
    bif (decide (x11 ≥ (0 : Int))) then
      some (.inr ((s10 : Nat) : Int))
    else
      some (.inl (s10 + widthAt a0 s10))
  else
    some (.inr (-1 : Int))
noncomputable def strings_IndexAny_b3 (a0 : Bytes) (a1 : Bytes) (s12 : Nat) : Option (Nat ⊕ Int) :=
  bif (decide (s12 < a0.length)) then
    (strings_IndexRune a1 ((runeAt a0 s12 : Nat) : Int)).bind fun x13 =>
    bif (decide (x13 ≥ (0 : Int))) then
      some (.inr ((s12 : Nat) : Int))
    else
      some (.inl (s12 + widthAt a0 s12))
  else
    some (.inr (-1 : Int))
noncomputable def strings_IndexAny (a0 : Bytes) (a1 : Bytes) : Option Int :=
  bif (a1 == ([] : Bytes)) then
    some (-1 : Int)
  else
    bif ((a1.length : Int) == (1 : Int)) then
      (idx a1 (0 : Int)).bind fun x1 =>
      bif (decide ((IntKind.i32.wrap (x1.toNat : Int)) ≥ (128 : Int))) then
        (strings_IndexRune a0 (65533 : Int)).bind fun x2 =>
        some x2
      else
        (strings_IndexRune a0 (IntKind.i32.wrap (x1.toNat : Int))).bind fun x3 =>
        some x3
    else
      (strings_shouldUseASCIISet (a0.length : Int)).bind fun x4 =>
      bif x4 then
        (strings_makeASCIISet a1).bind fun x5 =>
        chk ((x5.1).length = 256) <|
        bif x5.2 then
          chk (0 < (x5.1).length) <|
          loopO (strings_IndexAny_b1 a0 x5) (0 : Int)
        else
          loopO (strings_IndexAny_b2 a0 a1) 0
      else
        loopO (strings_IndexAny_b3 a0 a1) 0

noncomputable def bytealg_LastIndexByteString_b1 (a0 : Bytes) (a1 : Int) (s1 : Int) : Option (Int ⊕ Int) :=
  bif (decide (s1 ≥ (0 : Int))) then
    (idx a0 s1).bind fun x2 =>
    bif ((x2.toNat : Int) == a1) then
      some (.inr s1)
    else
      some (.inl (IntKind.i64.wrap (s1 - (1 : Int))))
  else
    some (.inr (-1 : Int))
noncomputable def bytealg_LastIndexByteString (a0 : Bytes) (a1 : Int) : Option Int :=
  loopO (bytealg_LastIndexByteString_b1 a0 a1) (IntKind.i64.wrap ((a0.length : Int) - (1 : Int)))

noncomputable def strings_LastIndexByte (a0 : Bytes) (a1 : Int) : Option Int :=
  (bytealg_LastIndexByteString a0 a1).bind fun x1 =>
  some x1

noncomputable def number_read_uint64_b1 (a0 : Bytes) (a1 : Int) (a2i : Int → Option Int) (x : (Int × Bool × Int)) : Option ((Int × Bool × Int) ⊕ (Int × Int)) :=
  match x with
  | (s1, s2, s3) =>
    bif (decide (s3 < (a0.length : Int))) then
      (idx a0 s3).bind fun x4 =>
      (a2i (x4.toNat : Int)).bind fun x5 =>
      bif (decide (x5 ≥ a1)) then
        some (.inr ((0 : Int), (10 : Int)))
      else
        bif (decide ((IntKind.u64.wrap ((IntKind.u64.wrap (s1 * a1)) + x5)) > (1099511627776 : Int))) then
          some (.inl ((0 : Int), true, (IntKind.i64.wrap (s3 + (1 : Int)))))
        else
          some (.inl ((IntKind.u64.wrap ((IntKind.u64.wrap (s1 * a1)) + x5)), s2, (IntKind.i64.wrap (s3 + (1 : Int)))))
    else
      bif s2 then
        some (.inr ((0 : Int), (2 : Int)))
      else
        some (.inr (s1, (0 : Int)))
noncomputable def number_read_uint64 (a0 : Bytes) (a1 : Int) (a2i : Int → Option Int) : Option (Int × Int) :=
  bif (a0 == ([] : Bytes)) then
    some ((0 : Int), (10 : Int))
  else
    loopO (number_read_uint64_b1 a0 a1 a2i) ((IntKind.u64.wrap (0 : Int)), false, (0 : Int))

noncomputable def number_ReadDec_1 (a0 : Int) : Option Int :=
  some (IntKind.u64.wrap (IntKind.u8.wrap (a0 - (48 : Int))))

noncomputable def number_ReadDec (a0 : Bytes) : Option (Int × Int) :=
  (number_read_uint64 a0 (10 : Int) (fun x0 => number_ReadDec_1 x0)).bind fun x1 =>
  some ((x1.1), (x1.2))

noncomputable def uri_place (a0 : Bytes) (a1 : S_Uri) : Option (S_Uri × Bool) :=
  (text_Lower a0).bind fun x1 =>
  (strings_LastIndexByte a0 (58 : Int)).bind fun x2 =>
  bif (decide (x2 < (0 : Int))) then
    some ((S_Uri.mk true x1 (a1.Port) (a1.Path) (a1.Asks) (a1.Query)), true)
  else
    (slc a0 (IntKind.i64.wrap (x2 + (1 : Int))) (a0.length : Int)).bind fun x3 =>
    (number_ReadDec x3).bind fun x4 =>
    (slc x1 0 x2).bind fun x5 =>
    some ((S_Uri.mk true x5 (IntKind.i64.wrap (x4.1)) (a1.Path) (a1.Asks) (a1.Query)), (bif (bif ((x4.2) == (0 : Int)) then (decide ((IntKind.i64.wrap ((IntKind.i64.wrap ((a0.length : Int) - x2)) - (1 : Int))) ≤ (5 : Int))) else false) then (decide ((x4.1) > (0 : Int))) else false))

noncomputable def stringslite_Index (a0 : Bytes) (a1 : Bytes) : Option Int :=
  bif (bif ((a1.length : Int) == (0 : Int)) then true else (a1 == a0)) then
    some (0 : Int)
  else
    bif ((a1.length : Int) == (1 : Int)) then
      (idx a1 (0 : Int)).bind fun x1 =>
      (stringslite_IndexByte a0 (x1.toNat : Int)).bind fun x2 =>
      some x2
    else
      bif (decide ((a1.length : Int) ≥ (a0.length : Int))) then
        some (-1 : Int)
      else
        none

noncomputable def stringslite_Cut (a0 : Bytes) (a1 : Bytes) : Option (Bytes × Bytes × Bool) :=
  (stringslite_Index a0 a1).bind fun x1 =>
  bif (decide (x1 ≥ (0 : Int))) then
    (slc a0 0 x1).bind fun x2 =>
    (slc a0 (IntKind.i64.wrap (x1 + (a1.length : Int))) (a0.length : Int)).bind fun x3 =>
    some (x2, x3, true)
  else
    some (a0, ([] : Bytes), false)

noncomputable def strings_Cut (a0 : Bytes) (a1 : Bytes) : Option (Bytes × Bytes × Bool) :=
  (stringslite_Cut a0 a1).bind fun x1 =>
  some ((x1.1), (x1.2.1), (x1.2.2))

noncomputable def uri_path (a0 : Bytes) (a1 : S_Uri) : Option S_Uri :=
  (strings_Cut a0 ([63] : Bytes)).bind fun x1 =>
  some (S_Uri.mk (a1.Abs) (a1.Host) (a1.Port) (x1.1) (x1.2.2) (x1.2.1))

noncomputable def slices_IndexFunc__byte_byte_b1 (a0 : (List UInt8)) (a1i : Int → Option Bool) (s1 : Int) : Option (Int ⊕ Int) :=
  bif (decide (s1 < (a0.length : Int))) then
    (idx a0 s1).bind fun x2 =>
    (a1i (x2.toNat : Int)).bind fun x3 =>
    bif x3 then
      some (.inr s1)
    else
      some (.inl (IntKind.i64.wrap (s1 + (1 : Int))))
  else
    some (.inr (-1 : Int))
noncomputable def slices_IndexFunc__byte_byte (a0 : (List UInt8)) (a1i : Int → Option Bool) : Option Int :=
  loopO (slices_IndexFunc__byte_byte_b1 a0 a1i) (0 : Int)

noncomputable def slices_ContainsFunc__byte_byte (a0 : (List UInt8)) (a1i : Int → Option Bool) : Option Bool :=
  (slices_IndexFunc__byte_byte a0 (a1i)).bind fun x1 =>
  some (decide (x1 ≥ (0 : Int)))

noncomputable def uri_bytes_1 (a0 : Int) : Option Bool :=
  (gcall (!(bif (decide (a0 ≤ (32 : Int))) then true else (decide (a0 > (126 : Int))))) (strings_IndexByte ([34, 35, 60, 62, 92, 94, 123, 124, 125, 96] : Bytes) a0)).bind fun x1 =>
  some (bif (bif (decide (a0 ≤ (32 : Int))) then true else (decide (a0 > (126 : Int)))) then true else (decide (x1 ≥ (0 : Int))))

noncomputable def uri_bytes (a0 : Bytes) : Option Bool :=
  (slices_ContainsFunc__byte_byte a0 (fun x0 => uri_bytes_1 x0)).bind fun x1 =>
  some (!x1)

noncomputable def strings_Index (a0 : Bytes) (a1 : Bytes) : Option Int :=
  (stringslite_Index a0 a1).bind fun x1 =>
  some x1

noncomputable def strings_Contains (a0 : Bytes) (a1 : Bytes) : Option Bool :=
  (strings_Index a0 a1).bind fun x1 =>
  some (decide (x1 ≥ (0 : Int)))

noncomputable def number_Dec (a0 : Int) : Option Bytes :=
  (strconv_FormatUint a0 (10 : Int)).bind fun x1 =>
  some x1

noncomputable def uri_write (a0 : S_Uri) : Option Bytes :=
  bif a0.Abs then
    (cat ([104, 116, 116, 112, 58, 47, 47] : Bytes) (a0.Host)).bind fun x1 =>
    bif ((a0.Port) != (0 : Int)) then
      (number_Dec (IntKind.u64.wrap (a0.Port))).bind fun x2 =>
      (cat ([58] : Bytes) x2).bind fun x3 =>
      (cat x1 x3).bind fun x4 =>
      (cat x4 (a0.Path)).bind fun x5 =>
      bif a0.Asks then
        (cat ([63] : Bytes) (a0.Query)).bind fun x6 =>
        (cat x5 x6).bind fun x7 =>
        some x7
      else
        some x5
    else
      (cat x1 (a0.Path)).bind fun x8 =>
      bif a0.Asks then
        (cat ([63] : Bytes) (a0.Query)).bind fun x9 =>
        (cat x8 x9).bind fun x10 =>
        some x10
      else
        some x8
  else
    (cat ([] : Bytes) (a0.Path)).bind fun x11 =>
    bif a0.Asks then
      (cat ([63] : Bytes) (a0.Query)).bind fun x12 =>
      (cat x11 x12).bind fun x13 =>
      some x13
    else
      some x11

noncomputable def uri_host_1 (a0 : Int) : Option Bool :=
  some (!(bif (bif (bif (bif (decide (a0 ≥ (97 : Int))) then (decide (a0 ≤ (122 : Int))) else false) then true else (bif (decide (a0 ≥ (48 : Int))) then (decide (a0 ≤ (57 : Int))) else false)) then true else (a0 == (45 : Int))) then true else (a0 == (46 : Int))))

noncomputable def uri_host (a0 : Bytes) : Option Bool :=
  (gcall (bif (decide ((a0.length : Int) ≥ (1 : Int))) then (decide ((a0.length : Int) ≤ (100 : Int))) else false) (slices_ContainsFunc__byte_byte a0 (fun x0 => uri_host_1 x0))).bind fun x1 =>
  some (bif (bif (decide ((a0.length : Int) ≥ (1 : Int))) then (decide ((a0.length : Int) ≤ (100 : Int))) else false) then (!x1) else false)

noncomputable def stringslite_HasPrefix (a0 : Bytes) (a1 : Bytes) : Option Bool :=
  (gslc (decide ((a0.length : Int) ≥ (a1.length : Int))) a0 0 (a1.length : Int)).bind fun x1 =>
  some (bif (decide ((a0.length : Int) ≥ (a1.length : Int))) then (x1 == a1) else false)

noncomputable def strings_HasPrefix (a0 : Bytes) (a1 : Bytes) : Option Bool :=
  (stringslite_HasPrefix a0 a1).bind fun x1 =>
  some x1

noncomputable def uri_Right (a0 : S_Uri) : Option Bool :=
  (uri_bytes (a0.Path)).bind fun x1 =>
  (gcall (!(!x1)) (uri_bytes (a0.Query))).bind fun x2 =>
  (gcall (!(bif (!x1) then true else (!x2))) (strings_Contains (a0.Path) ([63] : Bytes))).bind fun x3 =>
  (gcall (!(bif (bif (bif (bif (bif (!x1) then true else (!x2)) then true else x3) then true else (bif (!(a0.Asks)) then (!(a0.Query == ([] : Bytes))) else false)) then true else (decide ((a0.Port) < (0 : Int)))) then true else (decide ((a0.Port) > (65535 : Int))))) (uri_write a0)).bind fun x4 =>
  bif (bif (bif (bif (bif (bif (bif (!x1) then true else (!x2)) then true else x3) then true else (bif (!(a0.Asks)) then (!(a0.Query == ([] : Bytes))) else false)) then true else (decide ((a0.Port) < (0 : Int)))) then true else (decide ((a0.Port) > (65535 : Int)))) then true else (decide ((x4.length : Int) > (500 : Int)))) then
    some false
  else
    bif a0.Abs then
      (uri_host (a0.Host)).bind fun x5 =>
      (gcall x5 (strings_HasPrefix (a0.Path) ([47] : Bytes))).bind fun x6 =>
      some (bif x5 then x6 else false)
    else
      (strings_Cut (a0.Path) ([47] : Bytes)).bind fun x7 =>
      (gcall (bif (a0.Host == ([] : Bytes)) then ((a0.Port) == (0 : Int)) else false) (strings_HasPrefix (a0.Path) ([47, 47] : Bytes))).bind fun x8 =>
      (gcall (bif (bif (a0.Host == ([] : Bytes)) then ((a0.Port) == (0 : Int)) else false) then (!x8) else false) (strings_Contains (x7.1) ([58] : Bytes))).bind fun x9 =>
      some (bif (bif (bif (a0.Host == ([] : Bytes)) then ((a0.Port) == (0 : Int)) else false) then (!x8) else false) then (!x9) else false)

noncomputable def uri_Parse (a0 : Bytes) : Option (S_Uri × Int) :=
  bif (decide ((a0.length : Int) > (500 : Int))) then
    some ((S_Uri.mk false ([] : Bytes) (0 : Int) ([] : Bytes) false ([] : Bytes)), (2 : Int))
  else
    (gslc (decide ((a0.length : Int) ≥ (7 : Int))) a0 0 (7 : Int)).bind fun x1 =>
    (gcall (decide ((a0.length : Int) ≥ (7 : Int))) (text_Same x1 ([104, 116, 116, 112, 58, 47, 47] : Bytes))).bind fun x2 =>
    bif (bif (decide ((a0.length : Int) ≥ (7 : Int))) then x2 else false) then
      (slc a0 (7 : Int) (a0.length : Int)).bind fun x3 =>
      (strings_IndexAny x3 ([47, 63] : Bytes)).bind fun x4 =>
      bif (decide (x4 < (0 : Int))) then
        (slc x3 0 (x3.length : Int)).bind fun x5 =>
        (uri_place x5 (S_Uri.mk false ([] : Bytes) (0 : Int) ([] : Bytes) false ([] : Bytes))).bind fun x6 =>
        (slc x3 (x3.length : Int) (x3.length : Int)).bind fun x7 =>
        (gidx (!(x7 == ([] : Bytes))) x7 (0 : Int)).bind fun x8 =>
        bif (bif (x7 == ([] : Bytes)) then true else ((x8.toNat : Int) == (63 : Int))) then
          (cat ([47] : Bytes) x7).bind fun x9 =>
          (uri_path x9 (x6.1)).bind fun x10 =>
          (gcall (!(!(x6.2))) (uri_Right x10)).bind fun x11 =>
          bif (bif (!(x6.2)) then true else (!x11)) then
            some ((S_Uri.mk false ([] : Bytes) (0 : Int) ([] : Bytes) false ([] : Bytes)), (20 : Int))
          else
            some (x10, (0 : Int))
        else
          (uri_path x7 (x6.1)).bind fun x12 =>
          (gcall (!(!(x6.2))) (uri_Right x12)).bind fun x13 =>
          bif (bif (!(x6.2)) then true else (!x13)) then
            some ((S_Uri.mk false ([] : Bytes) (0 : Int) ([] : Bytes) false ([] : Bytes)), (20 : Int))
          else
            some (x12, (0 : Int))
      else
        (slc x3 0 x4).bind fun x14 =>
        (uri_place x14 (S_Uri.mk false ([] : Bytes) (0 : Int) ([] : Bytes) false ([] : Bytes))).bind fun x15 =>
        (slc x3 x4 (x3.length : Int)).bind fun x16 =>
        (gidx (!(x16 == ([] : Bytes))) x16 (0 : Int)).bind fun x17 =>
        bif (bif (x16 == ([] : Bytes)) then true else ((x17.toNat : Int) == (63 : Int))) then
          (cat ([47] : Bytes) x16).bind fun x18 =>
          (uri_path x18 (x15.1)).bind fun x19 =>
          (gcall (!(!(x15.2))) (uri_Right x19)).bind fun x20 =>
          bif (bif (!(x15.2)) then true else (!x20)) then
            some ((S_Uri.mk false ([] : Bytes) (0 : Int) ([] : Bytes) false ([] : Bytes)), (20 : Int))
          else
            some (x19, (0 : Int))
        else
          (uri_path x16 (x15.1)).bind fun x21 =>
          (gcall (!(!(x15.2))) (uri_Right x21)).bind fun x22 =>
          bif (bif (!(x15.2)) then true else (!x22)) then
            some ((S_Uri.mk false ([] : Bytes) (0 : Int) ([] : Bytes) false ([] : Bytes)), (20 : Int))
          else
            some (x21, (0 : Int))
    else
      (uri_path a0 (S_Uri.mk false ([] : Bytes) (0 : Int) ([] : Bytes) false ([] : Bytes))).bind fun x23 =>
      (gcall (!(!true)) (uri_Right x23)).bind fun x24 =>
      bif (bif (!true) then true else (!x24)) then
        some ((S_Uri.mk false ([] : Bytes) (0 : Int) ([] : Bytes) false ([] : Bytes)), (20 : Int))
      else
        some (x23, (0 : Int))

noncomputable def route_host (a0 : Bytes) : Option Bool :=
  (cat ([104, 116, 116, 112, 58, 47, 47] : Bytes) a0).bind fun x1 =>
  (cat x1 ([47] : Bytes)).bind fun x2 =>
  (uri_Parse x2).bind fun x3 =>
  some (bif ((x3.2) == (0 : Int)) then ((((x3.1).Abs) == true) && ((((x3.1).Host) == a0) && ((((x3.1).Port) == (0 : Int)) && ((((x3.1).Path) == ([47] : Bytes)) && ((((x3.1).Asks) == false) && ((((x3.1).Query) == ([] : Bytes)) && true)))))) else false)

noncomputable def route_right (a0 : S_Route) : Option Bool :=
  (cat ([104, 116, 116, 112, 58, 47, 47, 104] : Bytes) (a0.Prefix)).bind fun x1 =>
  (uri_Parse x1).bind fun x2 =>
  (gcall (!(a0.Host == ([] : Bytes))) (route_host (a0.Host))).bind fun x3 =>
  (gcall (bif (a0.Host == ([] : Bytes)) then true else x3) (route_host (a0.Origin))).bind fun x4 =>
  some (bif (bif (bif (bif (a0.Host == ([] : Bytes)) then true else x3) then x4 else false) then (bif ((x2.2) == (0 : Int)) then ((((x2.1).Abs) == true) && ((((x2.1).Host) == ([104] : Bytes)) && ((((x2.1).Port) == (0 : Int)) && ((((x2.1).Path) == (a0.Prefix)) && ((((x2.1).Asks) == false) && ((((x2.1).Query) == ([] : Bytes)) && true)))))) else false) else false) then (decide (((a0.Prefix).length : Int) ≤ (100 : Int))) else false)

noncomputable def route_Right_b1 (a0 : (List S_Route)) (x : (Int × (List (S_route_key × Bool)))) : Option ((Int × (List (S_route_key × Bool))) ⊕ Bool) :=
  match x with
  | (s1, s2) =>
    bif (decide (s1 < (a0.length : Int))) then
      (idx a0 s1).bind fun x3 =>
      (route_right x3).bind fun x4 =>
      bif (!x4) then
        some (.inr false)
      else
        some (.inl ((IntKind.i64.wrap (s1 + (1 : Int))), (mins s2 (S_route_key.mk (x3.Host) (x3.Prefix)) true)))
    else
      chk (s2.length ≤ maxLen) <|
      some (.inr (bif (decide ((a0.length : Int) ≤ (16 : Int))) then ((s2.length : Int) == (a0.length : Int)) else false))
noncomputable def route_Right (a0 : (List S_Route)) : Option Bool :=
  loopO (route_Right_b1 a0) ((0 : Int), ([] : List (S_route_key × Bool)))

noncomputable def slices_IndexFunc__api_Route_api_Route_b1 (a0 : (List S_Route)) (a1i : S_Route → Option Bool) (s1 : Int) : Option (Int ⊕ Int) :=
  bif (decide (s1 < (a0.length : Int))) then
    (idx a0 s1).bind fun x2 =>
    (a1i x2).bind fun x3 =>
    bif x3 then
      some (.inr s1)
    else
      some (.inl (IntKind.i64.wrap (s1 + (1 : Int))))
  else
    some (.inr (-1 : Int))
noncomputable def slices_IndexFunc__api_Route_api_Route (a0 : (List S_Route)) (a1i : S_Route → Option Bool) : Option Int :=
  loopO (slices_IndexFunc__api_Route_api_Route_b1 a0 a1i) (0 : Int)

noncomputable def slices_ContainsFunc__api_Route_api_Route (a0 : (List S_Route)) (a1i : S_Route → Option Bool) : Option Bool :=
  (slices_IndexFunc__api_Route_api_Route a0 (a1i)).bind fun x1 =>
  some (decide (x1 ≥ (0 : Int)))

noncomputable def script_all_api_Route_1 (a0 : S_Route) (c0i : S_Route → Option Bool) : Option Bool :=
  (c0i a0).bind fun x1 =>
  some (!x1)

noncomputable def script_all_api_Route (a0 : (List S_Route)) (a1i : S_Route → Option Bool) : Option Bool :=
  (slices_ContainsFunc__api_Route_api_Route a0 (fun x0 => script_all_api_Route_1 x0 (a1i))).bind fun x1 =>
  some (!x1)

noncomputable def script_Right_1 (a0 : S_Route) : Option Bool :=
  some (!(a0.Host == ([45] : Bytes)))

noncomputable def slices_IndexFunc__api_Deed_api_Deed_b1 (a0 : (List S_Deed)) (a1i : S_Deed → Option Bool) (s1 : Int) : Option (Int ⊕ Int) :=
  bif (decide (s1 < (a0.length : Int))) then
    (idx a0 s1).bind fun x2 =>
    (a1i x2).bind fun x3 =>
    bif x3 then
      some (.inr s1)
    else
      some (.inl (IntKind.i64.wrap (s1 + (1 : Int))))
  else
    some (.inr (-1 : Int))
noncomputable def slices_IndexFunc__api_Deed_api_Deed (a0 : (List S_Deed)) (a1i : S_Deed → Option Bool) : Option Int :=
  loopO (slices_IndexFunc__api_Deed_api_Deed_b1 a0 a1i) (0 : Int)

noncomputable def slices_ContainsFunc__api_Deed_api_Deed (a0 : (List S_Deed)) (a1i : S_Deed → Option Bool) : Option Bool :=
  (slices_IndexFunc__api_Deed_api_Deed a0 (a1i)).bind fun x1 =>
  some (decide (x1 ≥ (0 : Int)))

noncomputable def script_all_api_Deed_1 (a0 : S_Deed) (c0i : S_Deed → Option Bool) : Option Bool :=
  (c0i a0).bind fun x1 =>
  some (!x1)

noncomputable def script_all_api_Deed (a0 : (List S_Deed)) (a1i : S_Deed → Option Bool) : Option Bool :=
  (slices_ContainsFunc__api_Deed_api_Deed a0 (fun x0 => script_all_api_Deed_1 x0 (a1i))).bind fun x1 =>
  some (!x1)

noncomputable def script_right (a0 : S_Deed) : Option Bool :=
  some (bif (bif (bif (bif (bif (bif (bif (decide ((a0.Kind) ≥ (1 : Int))) then (decide ((a0.Kind) ≤ (6 : Int))) else false) then (decide ((a0.At) ≥ (0 : Int))) else false) then (decide ((a0.At) ≤ (100000 : Int))) else false) then (bif (bif (bif ((a0.Kind) == (2 : Int)) then true else ((a0.Kind) == (4 : Int))) then true else ((a0.Kind) == (5 : Int))) then true else ((a0.At) == (0 : Int))) else false) then (decide (((a0.Bytes).length : Int) ≤ (3000 : Int))) else false) then (bif (bif ((a0.Kind) == (1 : Int)) then true else ((a0.Kind) == (4 : Int))) then true else (a0.Bytes == ([] : Bytes))) else false) then (bif ((a0.Kind) == (5 : Int)) then true else (!(a0.Clean))) else false)

noncomputable def script_Right (a0 : S_Plan) : Option Bool :=
  (script_device (a0.Device)).bind fun x1 =>
  (gcall x1 (route_Right (a0.Routes))).bind fun x2 =>
  (gcall (bif x1 then x2 else false) (script_all_api_Route (a0.Routes) (fun x0 => script_Right_1 x0))).bind fun x3 =>
  (gcall (bif (bif (bif x1 then x2 else false) then x3 else false) then (decide (((a0.Deeds).length : Int) ≤ (200 : Int))) else false) (script_all_api_Deed (a0.Deeds) (fun x0 => script_right x0))).bind fun x4 =>
  some (bif (bif (bif (bif x1 then x2 else false) then x3 else false) then (decide (((a0.Deeds).length : Int) ≤ (200 : Int))) else false) then x4 else false)

noncomputable def script_word (a0 : Bytes) : Option Bytes :=
  bif (a0 == ([] : Bytes)) then
    some ([45] : Bytes)
  else
    some a0

noncomputable def script_way (a0 : S_Route) : Option Bytes :=
  (script_word (a0.Host)).bind fun x1 =>
  (strings_Join ([([114, 111, 117, 116, 101] : Bytes), x1, (a0.Prefix), (a0.Origin)] : List Bytes) ([32] : Bytes)).bind fun x2 =>
  some x2

noncomputable def script_words : Option (List Bytes) :=
  some ([([105, 110] : Bytes), ([119, 114, 105, 116, 101] : Bytes), ([108, 101, 102, 116] : Bytes), ([99, 97, 109, 101] : Bytes), ([103, 111, 110, 101] : Bytes), ([116, 105, 99, 107] : Bytes)] : List Bytes)

noncomputable def script_hexed_b1 (a0 : Bytes) (x : ((List UInt8) × Int)) : Option (((List UInt8) × Int) ⊕ (List UInt8)) :=
  match x with
  | (s2, s3) =>
    bif (decide (s3 < (a0.length : Int))) then
      (idx a0 s3).bind fun x4 =>
      chk ((0 ≤ (4 : Int) ∧ (4 : Int) ≤ (IntKind.u8.bits : Int)) ∧ IntKind.u8.wrap ((x4.toNat : Int) / 2 ^ (4 : Int).toNat) = (x4.toNat : Int) / 2 ^ (4 : Int).toNat) <|
      (idx ([48, 49, 50, 51, 52, 53, 54, 55, 56, 57, 97, 98, 99, 100, 101, 102] : Bytes) ((x4.toNat : Int) / 2 ^ (4 : Int).toNat)).bind fun x6 =>
      (idx a0 s3).bind fun x7 =>
      (idx ([48, 49, 50, 51, 52, 53, 54, 55, 56, 57, 97, 98, 99, 100, 101, 102] : Bytes) (bits .and .u8 (x7.toNat : Int) (15 : Int))).bind fun x8 =>
      (app 1 s2 ([u8 (x6.toNat : Int), u8 (x8.toNat : Int)] : List UInt8)).bind fun x9 =>
      some (.inl (x9, (IntKind.i64.wrap (s3 + (1 : Int)))))
    else
      some (.inr s2)
noncomputable def script_hexed (a0 : Bytes) : Option Bytes :=
  (loopO (script_hexed_b1 a0) (([] : List UInt8), (0 : Int)) : Option (List UInt8)).bind fun j1 =>
  some j1

noncomputable def script_bytes (a0 : Bytes) : Option Bytes :=
  (script_hexed a0).bind fun x1 =>
  (script_word x1).bind fun x2 =>
  some x2

noncomputable def script_line (a0 : S_Deed) : Option Bytes :=
  (script_words).bind fun x1 =>
  (idx x1 (IntKind.i64.wrap (a0.Kind - (1 : Int)))).bind fun x2 =>
  bif (bif (bif ((a0.Kind) == (2 : Int)) then true else ((a0.Kind) == (4 : Int))) then true else ((a0.Kind) == (5 : Int))) then
    (number_Dec (IntKind.u64.wrap (a0.At))).bind fun x3 =>
    (app 16 ([x2] : List Bytes) ([x3] : List Bytes)).bind fun x4 =>
    bif (bif ((a0.Kind) == (1 : Int)) then true else ((a0.Kind) == (4 : Int))) then
      (script_bytes (a0.Bytes)).bind fun x5 =>
      (app 16 x4 ([x5] : List Bytes)).bind fun x6 =>
      (strings_Join x6 ([32] : Bytes)).bind fun x7 =>
      some x7
    else
      bif a0.Clean then
        (app 16 x4 ([([99, 108, 101, 97, 110] : Bytes)] : List Bytes)).bind fun x8 =>
        (strings_Join x8 ([32] : Bytes)).bind fun x9 =>
        some x9
      else
        bif ((a0.Kind) == (5 : Int)) then
          (app 16 x4 ([([116, 111, 114, 110] : Bytes)] : List Bytes)).bind fun x10 =>
          (strings_Join x10 ([32] : Bytes)).bind fun x11 =>
          some x11
        else
          (strings_Join x4 ([32] : Bytes)).bind fun x12 =>
          some x12
  else
    bif (bif ((a0.Kind) == (1 : Int)) then true else ((a0.Kind) == (4 : Int))) then
      (script_bytes (a0.Bytes)).bind fun x13 =>
      (app 16 ([x2] : List Bytes) ([x13] : List Bytes)).bind fun x14 =>
      (strings_Join x14 ([32] : Bytes)).bind fun x15 =>
      some x15
    else
      bif a0.Clean then
        (app 16 ([x2] : List Bytes) ([([99, 108, 101, 97, 110] : Bytes)] : List Bytes)).bind fun x16 =>
        (strings_Join x16 ([32] : Bytes)).bind fun x17 =>
        some x17
      else
        bif ((a0.Kind) == (5 : Int)) then
          (app 16 ([x2] : List Bytes) ([([116, 111, 114, 110] : Bytes)] : List Bytes)).bind fun x18 =>
          (strings_Join x18 ([32] : Bytes)).bind fun x19 =>
          some x19
        else
          (strings_Join ([x2] : List Bytes) ([32] : Bytes)).bind fun x20 =>
          some x20

noncomputable def script_Print_b1 (a0 : S_Plan) (x : ((List Bytes) × Int)) : Option (((List Bytes) × Int) ⊕ (List Bytes)) :=
  match x with
  | (s4, s5) =>
    bif (decide (s5 < ((a0.Routes).length : Int))) then
      (idx (a0.Routes) s5).bind fun x6 =>
      (script_way x6).bind fun x7 =>
      (app 16 s4 ([x7] : List Bytes)).bind fun x8 =>
      some (.inl (x8, (IntKind.i64.wrap (s5 + (1 : Int)))))
    else
      some (.inr s4)
noncomputable def script_Print_b2 (a0 : S_Plan) (x : ((List Bytes) × Int)) : Option (((List Bytes) × Int) ⊕ (List Bytes)) :=
  match x with
  | (s10, s11) =>
    bif (decide (s11 < ((a0.Deeds).length : Int))) then
      (idx (a0.Deeds) s11).bind fun x12 =>
      (script_line x12).bind fun x13 =>
      (app 16 s10 ([x13] : List Bytes)).bind fun x14 =>
      some (.inl (x14, (IntKind.i64.wrap (s11 + (1 : Int)))))
    else
      some (.inr s10)
noncomputable def script_Print (a0 : S_Plan) : Option (Bytes × Int) :=
  (script_Right a0).bind fun x1 =>
  bif (!x1) then
    some (([] : Bytes), (1 : Int))
  else
    (cat ([100, 101, 118, 105, 99, 101, 32] : Bytes) (a0.Device)).bind fun x2 =>
    (loopO (script_Print_b1 a0) (([x2] : List Bytes), (0 : Int)) : Option (List Bytes)).bind fun j3 =>
    (loopO (script_Print_b2 a0) (j3, (0 : Int)) : Option (List Bytes)).bind fun j9 =>
    (strings_Join j9 ([10] : Bytes)).bind fun x15 =>
    (cat x15 ([10] : Bytes)).bind fun x16 =>
    some (x16, (0 : Int))

noncomputable def script_get (a0 : (List Bytes)) (a1 : Int) : Option Bytes :=
  bif (decide (a1 ≥ (a0.length : Int))) then
    some ([] : Bytes)
  else
    (idx a0 a1).bind fun x1 =>
    some x1

noncomputable def script_parse (a0 : Bytes) : Option (S_Route × Bool) :=
  (strings_Split a0 ([32] : Bytes)).bind fun x1 =>
  (script_get x1 (1 : Int)).bind fun x2 =>
  (script_get x1 (2 : Int)).bind fun x3 =>
  (script_get x1 (3 : Int)).bind fun x4 =>
  bif (x2 == ([45] : Bytes)) then
    (script_way (S_Route.mk ([] : Bytes) x3 x4)).bind fun x5 =>
    some ((S_Route.mk ([] : Bytes) x3 x4), (x5 == a0))
  else
    (script_way (S_Route.mk x2 x3 x4)).bind fun x6 =>
    some ((S_Route.mk x2 x3 x4), (x6 == a0))

noncomputable def slices_Index__string_string_b1 (a0 : (List Bytes)) (a1 : Bytes) (s1 : Int) : Option (Int ⊕ Int) :=
  bif (decide (s1 < (a0.length : Int))) then
    (idx a0 s1).bind fun x2 =>
    bif (a1 == x2) then
      some (.inr s1)
    else
      some (.inl (IntKind.i64.wrap (s1 + (1 : Int))))
  else
    some (.inr (-1 : Int))
noncomputable def slices_Index__string_string (a0 : (List Bytes)) (a1 : Bytes) : Option Int :=
  loopO (slices_Index__string_string_b1 a0 a1) (0 : Int)

noncomputable def script_unhexed_b1 (x : (Bytes × (List UInt8))) : Option ((Bytes × (List UInt8)) ⊕ (Bytes × Bool)) :=
  match x with
  | (s1, s2) =>
    bif (decide ((s1.length : Int) ≥ (2 : Int))) then
      (idx s1 (0 : Int)).bind fun x3 =>
      (strings_IndexByte ([48, 49, 50, 51, 52, 53, 54, 55, 56, 57, 97, 98, 99, 100, 101, 102] : Bytes) (x3.toNat : Int)).bind fun x4 =>
      (idx s1 (1 : Int)).bind fun x5 =>
      (strings_IndexByte ([48, 49, 50, 51, 52, 53, 54, 55, 56, 57, 97, 98, 99, 100, 101, 102] : Bytes) (x5.toNat : Int)).bind fun x6 =>
      bif (bif (decide (x4 < (0 : Int))) then true else (decide (x6 < (0 : Int)))) then
        some (.inr (([] : Bytes), false))
      else
        chk (0 ≤ (4 : Int) ∧ (4 : Int) ≤ (IntKind.i64.bits : Int)) <|
        (app 1 s2 ([u8 (IntKind.u8.wrap (bits .or .i64 (IntKind.i64.wrap (x4 * 2 ^ (4 : Int).toNat)) x6))] : List UInt8)).bind fun x8 =>
        (slc s1 (2 : Int) (s1.length : Int)).bind fun x9 =>
        some (.inl (x9, x8))
    else
      some (.inr (s2, (s1 == ([] : Bytes))))
noncomputable def script_unhexed (a0 : Bytes) : Option (Bytes × Bool) :=
  loopO (script_unhexed_b1) (a0, ([] : List UInt8))

noncomputable def script_deed (a0 : Bytes) : Option S_Deed :=
  (strings_Split a0 ([32] : Bytes)).bind fun x1 =>
  (script_words).bind fun x2 =>
  (idx x1 (0 : Int)).bind fun x3 =>
  (slices_Index__string_string x2 x3).bind fun x4 =>
  (script_get x1 (1 : Int)).bind fun x5 =>
  (number_ReadDec x5).bind fun x6 =>
  (idx x1 (IntKind.i64.wrap ((x1.length : Int) - (1 : Int)))).bind fun x7 =>
  (script_unhexed x7).bind fun x8 =>
  bif ((IntKind.i64.wrap (x4 + (1 : Int))) == (1 : Int)) then
    some (S_Deed.mk (IntKind.i64.wrap (x4 + (1 : Int))) (0 : Int) (x8.1) false)
  else
    bif ((IntKind.i64.wrap (x4 + (1 : Int))) == (2 : Int)) then
      some (S_Deed.mk (IntKind.i64.wrap (x4 + (1 : Int))) (IntKind.i64.wrap (x6.1)) ([] : Bytes) false)
    else
      bif ((IntKind.i64.wrap (x4 + (1 : Int))) == (4 : Int)) then
        some (S_Deed.mk (IntKind.i64.wrap (x4 + (1 : Int))) (IntKind.i64.wrap (x6.1)) (x8.1) false)
      else
        bif ((IntKind.i64.wrap (x4 + (1 : Int))) == (5 : Int)) then
          (idx x1 (IntKind.i64.wrap ((x1.length : Int) - (1 : Int)))).bind fun x9 =>
          some (S_Deed.mk (IntKind.i64.wrap (x4 + (1 : Int))) (IntKind.i64.wrap (x6.1)) ([] : Bytes) (x9 == ([99, 108, 101, 97, 110] : Bytes)))
        else
          some (S_Deed.mk (IntKind.i64.wrap (x4 + (1 : Int))) (0 : Int) ([] : Bytes) false)

noncomputable def stringslite_TrimPrefix (a0 : Bytes) (a1 : Bytes) : Option Bytes :=
  (stringslite_HasPrefix a0 a1).bind fun x1 =>
  bif x1 then
    (slc a0 (a1.length : Int) (a0.length : Int)).bind fun x2 =>
    some x2
  else
    some a0

noncomputable def strings_TrimPrefix (a0 : Bytes) (a1 : Bytes) : Option Bytes :=
  (stringslite_TrimPrefix a0 a1).bind fun x1 =>
  some x1

noncomputable def script_Parse_b1 (x : (Bytes × Int × S_Plan)) : Option ((Bytes × Int × S_Plan) ⊕ (S_Plan × Int × Int)) :=
  match x with
  | (s1, s2, s3) =>
    bif (bif (s2 == (1 : Int)) then true else (!(s1 == ([] : Bytes)))) then
      (strings_Cut s1 ([10] : Bytes)).bind fun x4 =>
      (script_parse (x4.1)).bind fun x5 =>
      (script_deed (x4.1)).bind fun x6 =>
      bif (s2 == (1 : Int)) then
        (strings_TrimPrefix (x4.1) ([100, 101, 118, 105, 99, 101, 32] : Bytes)).bind fun x7 =>
        (gcall (x4.2.2) (script_device x7)).bind fun x8 =>
        (gcat (bif x4.2.2 then x8 else false) ([100, 101, 118, 105, 99, 101, 32] : Bytes) x7).bind fun x9 =>
        bif (!(bif (bif x4.2.2 then x8 else false) then (x9 == x4.1) else false)) then
          some (.inr ((S_Plan.mk ([] : Bytes) ([] : List S_Route) ([] : List S_Deed)), (250 : Int), s2))
        else
          some (.inl ((x4.2.1), (IntKind.i64.wrap (s2 + (1 : Int))), (S_Plan.mk x7 (s3.Routes) (s3.Deeds))))
      else
        bif (bif x5.2 then (((s3.Deeds).length : Int) == (0 : Int)) else false) then
          (app 48 (s3.Routes) ([(x5.1)] : List S_Route)).bind fun x10 =>
          (gcall (x4.2.2) (route_Right x10)).bind fun x11 =>
          bif (!(bif x4.2.2 then x11 else false)) then
            some (.inr ((S_Plan.mk ([] : Bytes) ([] : List S_Route) ([] : List S_Deed)), (250 : Int), s2))
          else
            some (.inl ((x4.2.1), (IntKind.i64.wrap (s2 + (1 : Int))), (S_Plan.mk (s3.Device) x10 (s3.Deeds))))
        else
          (app 40 (s3.Deeds) ([x6] : List S_Deed)).bind fun x12 =>
          (gcall (bif x4.2.2 then (decide ((x12.length : Int) ≤ (200 : Int))) else false) (script_right x6)).bind fun x13 =>
          (gcall (bif (bif x4.2.2 then (decide ((x12.length : Int) ≤ (200 : Int))) else false) then x13 else false) (script_line x6)).bind fun x14 =>
          bif (!(bif (bif (bif x4.2.2 then (decide ((x12.length : Int) ≤ (200 : Int))) else false) then x13 else false) then (x14 == x4.1) else false)) then
            some (.inr ((S_Plan.mk ([] : Bytes) ([] : List S_Route) ([] : List S_Deed)), (250 : Int), s2))
          else
            some (.inl ((x4.2.1), (IntKind.i64.wrap (s2 + (1 : Int))), (S_Plan.mk (s3.Device) (s3.Routes) x12)))
    else
      some (.inr ((S_Plan.mk (s3.Device) (s3.Routes) (s3.Deeds)), (0 : Int), (0 : Int)))
noncomputable def script_Parse (a0 : Bytes) : Option (S_Plan × Int × Int) :=
  loopO (script_Parse_b1) (a0, (1 : Int), (S_Plan.mk ([] : Bytes) ([] : List S_Route) ([] : List S_Deed)))

noncomputable def intarsiaref25_Like_b2 (a0 : S_Plan) (a1 : S_Plan) (s4 : Int) : Option (Int ⊕ (Int ⊕ Bool)) :=
  bif (decide (s4 < ((a0.Deeds).length : Int))) then
    (idx (a0.Deeds) s4).bind fun x5 =>
    (idx (a1.Deeds) s4).bind fun x6 =>
    bif (!(((x5.Kind) == (x6.Kind)) && (((x5.At) == (x6.At)) && (((x5.Bytes) == (x6.Bytes)) && (((x5.Clean) == (x6.Clean)) && true))))) then
      some (.inr (.inr false))
    else
      some (.inl (IntKind.i64.wrap (s4 + (1 : Int))))
  else
    some (.inr (.inr true))
noncomputable def intarsiaref25_Like_b1 (a0 : S_Plan) (a1 : S_Plan) (s1 : Int) : Option (Int ⊕ Bool) :=
  bif (decide (s1 < ((a0.Routes).length : Int))) then
    (idx (a0.Routes) s1).bind fun x2 =>
    (idx (a1.Routes) s1).bind fun x3 =>
    bif (!(((x2.Host) == (x3.Host)) && (((x2.Prefix) == (x3.Prefix)) && (((x2.Origin) == (x3.Origin)) && true)))) then
      some (.inr false)
    else
      some (.inl (IntKind.i64.wrap (s1 + (1 : Int))))
  else
    loopO (intarsiaref25_Like_b2 a0 a1) (0 : Int)
noncomputable def intarsiaref25_Like (a0 : S_Plan) (a1 : S_Plan) : Option Bool :=
  bif (bif (bif (!(a0.Device == a1.Device)) then true else (((a0.Routes).length : Int) != ((a1.Routes).length : Int))) then true else (((a0.Deeds).length : Int) != ((a1.Deeds).length : Int))) then
    some false
  else
    loopO (intarsiaref25_Like_b1 a0 a1) (0 : Int)

noncomputable def intarsialaw25_alive : Option Bool :=
  (script_Parse ([100, 101, 118, 105, 99, 101, 32, 100, 10, 114, 111, 117, 116, 101, 32, 45, 32, 47, 32, 111, 10] : Bytes)).bind fun x1 =>
  (gcall ((x1.2.1) == (0 : Int)) (script_Right (x1.1))).bind fun x2 =>
  some (bif (bif (bif ((x1.2.1) == (0 : Int)) then x2 else false) then ((x1.1).Device == ([100] : Bytes)) else false) then ((((x1.1).Routes).length : Int) == (1 : Int)) else false)

noncomputable def intarsialaw25_ScriptBack (a0 : S_Plan) (a1 : Bytes) : Option Bool :=
  (intarsialaw25_few a0).bind fun x1 =>
  (slc a1 0 (imin (a1.length : Int) (9000 : Int))).bind fun x2 =>
  (script_Print x1).bind fun x3 =>
  bif ((x3.2) == (0 : Int)) then
    (script_Parse (x3.1)).bind fun x4 =>
    (gcall (!(bif ((x4.2.1) != (0 : Int)) then true else ((x4.2.2) != (0 : Int)))) (intarsiaref25_Like x1 (x4.1))).bind fun x5 =>
    bif (bif (bif ((x4.2.1) != (0 : Int)) then true else ((x4.2.2) != (0 : Int))) then true else (!x5)) then
      some false
    else
      (script_Parse x2).bind fun x6 =>
      bif ((x6.2.1) != (0 : Int)) then
        (intarsialaw25_alive).bind fun x7 =>
        (gcall x7 (intarsiaref25_Like (x6.1) (S_Plan.mk ([] : Bytes) ([] : List S_Route) ([] : List S_Deed)))).bind fun x8 =>
        some (bif x7 then x8 else false)
      else
        (script_Print (x6.1)).bind fun x9 =>
        (intarsialaw25_alive).bind fun x10 =>
        (gcall (bif (bif x10 then ((x9.2) == (0 : Int)) else false) then (x9.1 == x2) else false) (script_Right (x6.1))).bind fun x11 =>
        some (bif (bif (bif x10 then ((x9.2) == (0 : Int)) else false) then (x9.1 == x2) else false) then x11 else false)
  else
    (script_Parse x2).bind fun x12 =>
    bif ((x12.2.1) != (0 : Int)) then
      (intarsialaw25_alive).bind fun x13 =>
      (gcall x13 (intarsiaref25_Like (x12.1) (S_Plan.mk ([] : Bytes) ([] : List S_Route) ([] : List S_Deed)))).bind fun x14 =>
      some (bif x13 then x14 else false)
    else
      (script_Print (x12.1)).bind fun x15 =>
      (intarsialaw25_alive).bind fun x16 =>
      (gcall (bif (bif x16 then ((x15.2) == (0 : Int)) else false) then (x15.1 == x2) else false) (script_Right (x12.1))).bind fun x17 =>
      some (bif (bif (bif x16 then ((x15.2) == (0 : Int)) else false) then (x15.1 == x2) else false) then x17 else false)

noncomputable def unicode_utf8_RuneCountInString_b1 (a0 : Bytes) (x : (Int × Nat)) : Option ((Int × Nat) ⊕ Int) :=
  match x with
  | (s2, s3) =>
    bif (decide (s3 < a0.length)) then
      some (.inl ((IntKind.i64.wrap (s2 + (1 : Int))), (s3 + widthAt a0 s3)))
    else
      some (.inr s2)
noncomputable def unicode_utf8_RuneCountInString (a0 : Bytes) : Option Int :=
  (loopO (unicode_utf8_RuneCountInString_b1 a0) ((0 : Int), 0) : Option Int).bind fun j1 =>
  some j1

noncomputable def strings_Count_b1 (a1 : Bytes) (x : (Bytes × Int)) : Option ((Bytes × Int) ⊕ Int) :=
  match x with
  | (s4, s5) =>
    (strings_Index s4 a1).bind fun x6 =>
    bif (x6 == (-1 : Int)) then
      some (.inr s5)
    else
      (slc s4 (IntKind.i64.wrap (x6 + (a1.length : Int))) (s4.length : Int)).bind fun x7 =>
      some (.inl (x7, (IntKind.i64.wrap (s5 + (1 : Int)))))
noncomputable def strings_Count (a0 : Bytes) (a1 : Bytes) : Option Int :=
  bif ((a1.length : Int) == (0 : Int)) then
    (unicode_utf8_RuneCountInString a0).bind fun x1 =>
    some (IntKind.i64.wrap (x1 + (1 : Int)))
  else
    bif ((a1.length : Int) == (1 : Int)) then
      (idx a1 (0 : Int)).bind fun x2 =>
      (bytealg_CountString a0 (x2.toNat : Int)).bind fun x3 =>
      some x3
    else
      loopO (strings_Count_b1 a1) (a0, (0 : Int))

noncomputable def intarsialaw25_ScriptLines (a0 : S_Plan) : Option Bool :=
  (intarsialaw25_few a0).bind fun x1 =>
  (script_Print x1).bind fun x2 =>
  bif ((x2.2) != (0 : Int)) then
    (intarsialaw25_alive).bind fun x3 =>
    some (bif x3 then (x2.1 == ([] : Bytes)) else false)
  else
    (strings_Cut (x2.1) ([10] : Bytes)).bind fun x4 =>
    (script_Parse (x4.2.1)).bind fun x5 =>
    (cat (x2.1) (x4.1)).bind fun x6 =>
    (cat x6 ([10] : Bytes)).bind fun x7 =>
    (script_Parse x7).bind fun x8 =>
    (intarsialaw25_alive).bind fun x9 =>
    (gcall x9 (strings_Count (x2.1) ([10] : Bytes))).bind fun x10 =>
    some (bif (bif (bif (bif (bif x9 then (x10 == (IntKind.i64.wrap ((IntKind.i64.wrap (((x1.Deeds).length : Int) + ((x1.Routes).length : Int))) + (1 : Int)))) else false) then ((x5.2.1) == (250 : Int)) else false) then ((x5.2.2) == (1 : Int)) else false) then ((x8.2.1) == (250 : Int)) else false) then ((x8.2.2) == (IntKind.i64.wrap ((IntKind.i64.wrap (((x1.Deeds).length : Int) + ((x1.Routes).length : Int))) + (2 : Int)))) else false)

end Go.Proofs.YtkfoahoplndelaaGreatDoor
