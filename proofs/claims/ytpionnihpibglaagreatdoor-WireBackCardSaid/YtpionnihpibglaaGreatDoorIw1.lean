/-
  The plain images of the functions, written by a program of mine (gen.py) off the translation.
-/
import Derived.Test.YtpionnihpibglaaGreatDoorGi6
import Derived.Test.YtpionnihpibglaaGreatDoorGi4
import Derived.Test.YtpionnihpibglaaGreatDoorGi3
import Derived.Test.YtpionnihpibglaaGreatDoorIh1
import Derived.Test.YtpionnihpibglaaGreatDoorGi1
namespace Go.Proofs.YtpionnihpibglaaGreatDoor
open Go Go.Pm
set_option linter.unusedSimpArgs false
set_option linter.unusedVariables false
structure S_Start where
 Method : Bytes
 Target : Bytes
 Code : Int
 Reason : Bytes
 Minor : Int
instance : Inhabited S_Start := ⟨⟨default, default, default, default, default⟩⟩
def S_Start.cells (x : S_Start) : List AV := [AV.str x.Method, AV.str x.Target, AV.int .i64 x.Code, AV.str x.Reason, AV.int .i64 x.Minor]
def S_Start.av (x : S_Start) : AV := .agg (S_Start.cells x)
structure S_Message where
 Start : S_Start
 Fields : (List S_Field)
 Body : Bytes
instance : Inhabited S_Message := ⟨⟨default, default, default⟩⟩
def S_Message.cells (x : S_Message) : List AV := [AV.str x.Start.Method, AV.str x.Start.Target, AV.int .i64 x.Start.Code, AV.str x.Start.Reason, AV.int .i64 x.Start.Minor, AV.list 2 (x.Fields.map S_Field.av), AV.str x.Body]
def S_Message.av (x : S_Message) : AV := .agg (S_Message.cells x)
structure S_Body where
 Kind : Int
 Size : Int
instance : Inhabited S_Body := ⟨⟨default, default⟩⟩
def S_Body.cells (x : S_Body) : List AV := [AV.int .i64 x.Kind, AV.int .i64 x.Size]
def S_Body.av (x : S_Body) : AV := .agg (S_Body.cells x)
structure S_Chunked where
 Stage : Int
 Line : Bytes
 Left : Int
 Size : Int
instance : Inhabited S_Chunked := ⟨⟨default, default, default, default⟩⟩
def S_Chunked.cells (x : S_Chunked) : List AV := [AV.int .i64 x.Stage, AV.str x.Line, AV.int .i64 x.Left, AV.int .i64 x.Size]
def S_Chunked.av (x : S_Chunked) : AV := .agg (S_Chunked.cells x)
structure S_Reader where
 Asks : Bool
 Method : Bytes
 Buf : Bytes
 In : Bool
 Head : S_Message
 Body : S_Body
 Chunk : S_Chunked
 Bad : Int
instance : Inhabited S_Reader := ⟨⟨default, default, default, default, default, default, default, default⟩⟩
def S_Reader.cells (x : S_Reader) : List AV := [AV.bool x.Asks, AV.str x.Method, AV.str x.Buf, AV.bool x.In, AV.str x.Head.Start.Method, AV.str x.Head.Start.Target, AV.int .i64 x.Head.Start.Code, AV.str x.Head.Start.Reason, AV.int .i64 x.Head.Start.Minor, AV.list 2 (x.Head.Fields.map S_Field.av), AV.str x.Head.Body, AV.int .i64 x.Body.Kind, AV.int .i64 x.Body.Size, AV.int .i64 x.Chunk.Stage, AV.str x.Chunk.Line, AV.int .i64 x.Chunk.Left, AV.int .i64 x.Chunk.Size, AV.int .i64 x.Bad]
def S_Reader.av (x : S_Reader) : AV := .agg (S_Reader.cells x)
structure S_wire_reading where
 Reader : S_Reader
 out : (List S_Message)
instance : Inhabited S_wire_reading := ⟨⟨default, default⟩⟩
def S_wire_reading.cells (x : S_wire_reading) : List AV := [AV.bool x.Reader.Asks, AV.str x.Reader.Method, AV.str x.Reader.Buf, AV.bool x.Reader.In, AV.str x.Reader.Head.Start.Method, AV.str x.Reader.Head.Start.Target, AV.int .i64 x.Reader.Head.Start.Code, AV.str x.Reader.Head.Start.Reason, AV.int .i64 x.Reader.Head.Start.Minor, AV.list 2 (x.Reader.Head.Fields.map S_Field.av), AV.str x.Reader.Head.Body, AV.int .i64 x.Reader.Body.Kind, AV.int .i64 x.Reader.Body.Size, AV.int .i64 x.Reader.Chunk.Stage, AV.str x.Reader.Chunk.Line, AV.int .i64 x.Reader.Chunk.Left, AV.int .i64 x.Reader.Chunk.Size, AV.int .i64 x.Reader.Bad, AV.list 7 (x.out.map S_Message.av)]
def S_wire_reading.av (x : S_wire_reading) : AV := .agg (S_wire_reading.cells x)
structure S_chunk_state where
 Chunked : S_Chunked
 bad : Int
instance : Inhabited S_chunk_state := ⟨⟨default, default⟩⟩
def S_chunk_state.cells (x : S_chunk_state) : List AV := [AV.int .i64 x.Chunked.Stage, AV.str x.Chunked.Line, AV.int .i64 x.Chunked.Left, AV.int .i64 x.Chunked.Size, AV.int .i64 x.bad]
def S_chunk_state.av (x : S_chunk_state) : AV := .agg (S_chunk_state.cells x)
noncomputable def intarsialaw10_few_b1 (x4 : (List S_Field)) (x : (Int × (List S_Field))) : Option ((Int × (List S_Field)) ⊕ (List S_Field)) :=
 match x with
 | (s7, s8) =>
  bif (decide (s7 < ((x4.length : Nat) : Int))) then
   chk (0 ≤ s7 ∧ s7 < (x4.length : Int)) <|
   (idx s8 s7).bind fun x10 =>
   (slc x10.Name 0 (imin (x10.Name.length : Int) (60 : Int))).bind fun x11 =>
   (slc x10.Value 0 (imin (x10.Value.length : Int) (1010 : Int))).bind fun x12 =>
   chk (0 ≤ s7 ∧ s7 < (x4.length : Int)) <|
   (seti s8 s7 (S_Field.mk x11 x12)).bind fun x14 =>
   some (.inl ((IntKind.i64.wrap (s7 + (1 : Int))), x14))
  else
   some (.inr s8)
noncomputable def intarsialaw10_few (a0 : S_Message) : Option S_Message :=
 (slc a0.Start.Method 0 (imin (a0.Start.Method.length : Int) (40 : Int))).bind fun x1 =>
 (slc a0.Start.Target 0 (imin (a0.Start.Target.length : Int) (520 : Int))).bind fun x2 =>
 (slc a0.Start.Reason 0 (imin (a0.Start.Reason.length : Int) (120 : Int))).bind fun x3 =>
 (slc a0.Fields 0 (imin (a0.Fields.length : Int) (45 : Int))).bind fun x4 =>
 chk (x4.length ≤ maxLen ∧ x4.length * 32 ≤ 140737488355328) <|
 (loopO (intarsialaw10_few_b1 x4) ((0 : Int), x4) : Option (List S_Field)).bind fun j6 =>
 (slc a0.Body 0 (imin (a0.Body.length : Int) (21000 : Int))).bind fun x15 =>
 chk (x4.length ≤ j6.length) (some (S_Message.mk (S_Start.mk x1 x2 a0.Start.Code x3 a0.Start.Minor) (j6.take x4.length) x15))
noncomputable def stringslite_HasPrefix (a0 : Bytes) (a1 : Bytes) : Option Bool :=
 (gslc (decide ((a0.length : Int) ≥ (a1.length : Int))) a0 0 (a1.length : Int)).bind fun x1 =>
 some (bif (decide ((a0.length : Int) ≥ (a1.length : Int))) then (x1 == a1) else false)
noncomputable def strings_HasPrefix (a0 : Bytes) (a1 : Bytes) : Option Bool :=
 (stringslite_HasPrefix a0 a1).bind fun x1 =>
 some x1
noncomputable def start_target_1 (a0 : Int) : Option Bool :=
 (gcall (!(bif (decide (a0 ≤ (32 : Int))) then true else (decide (a0 > (126 : Int))))) (strings_IndexByte ([34, 35, 60, 62, 92, 94, 123, 124, 125, 96] : Bytes) a0)).bind fun x1 =>
 some (bif (bif (decide (a0 ≤ (32 : Int))) then true else (decide (a0 > (126 : Int)))) then true else (decide (x1 ≥ (0 : Int))))
noncomputable def start_target (a0 : Bytes) : Option Bool :=
 bif (a0 == ([42] : Bytes)) then
  some true
 else
  (strings_HasPrefix a0 ([47] : Bytes)).bind fun x1 =>
  (gcall (!x1) (strings_HasPrefix a0 ([104, 116, 116, 112, 58, 47, 47] : Bytes))).bind fun x2 =>
  (gcall (bif (bif x1 then true else x2) then (decide ((a0.length : Int) ≤ (500 : Int))) else false) (slices_ContainsFunc__byte_byte a0 (fun x0 => start_target_1 x0))).bind fun x3 =>
  some (bif (bif (bif x1 then true else x2) then (decide ((a0.length : Int) ≤ (500 : Int))) else false) then (!x3) else false)
noncomputable def start_Right_1 (a0 : Int) : Option Bool :=
 some (bif (bif (decide (a0 < (32 : Int))) then (a0 != (9 : Int)) else false) then true else (a0 == (127 : Int)))
noncomputable def start_Right (a0 : S_Start) : Option Bool :=
 bif (bif (a0.Minor != (0 : Int)) then (a0.Minor != (1 : Int)) else false) then
  some false
 else
  bif (a0.Code == (0 : Int)) then
   (gcall (a0.Reason == ([] : Bytes)) (text_Token a0.Method)).bind fun x1 =>
   (gcall (bif (bif (a0.Reason == ([] : Bytes)) then x1 else false) then (decide ((a0.Method.length : Int) ≤ (20 : Int))) else false) (start_target a0.Target)).bind fun x2 =>
   some (bif (bif (bif (a0.Reason == ([] : Bytes)) then x1 else false) then (decide ((a0.Method.length : Int) ≤ (20 : Int))) else false) then x2 else false)
  else
   (gcall (bif (bif (bif (bif (decide (a0.Code ≥ (100 : Int))) then (decide (a0.Code ≤ (599 : Int))) else false) then (a0.Method == ([] : Bytes)) else false) then (a0.Target == ([] : Bytes)) else false) then (decide ((a0.Reason.length : Int) ≤ (100 : Int))) else false) (text_Trim a0.Reason)).bind fun x3 =>
   (gcall (bif (bif (bif (bif (bif (decide (a0.Code ≥ (100 : Int))) then (decide (a0.Code ≤ (599 : Int))) else false) then (a0.Method == ([] : Bytes)) else false) then (a0.Target == ([] : Bytes)) else false) then (decide ((a0.Reason.length : Int) ≤ (100 : Int))) else false) then (x3 == a0.Reason) else false) (slices_ContainsFunc__byte_byte a0.Reason (fun x0 => start_Right_1 x0))).bind fun x4 =>
   some (bif (bif (bif (bif (bif (bif (decide (a0.Code ≥ (100 : Int))) then (decide (a0.Code ≤ (599 : Int))) else false) then (a0.Method == ([] : Bytes)) else false) then (a0.Target == ([] : Bytes)) else false) then (decide ((a0.Reason.length : Int) ≤ (100 : Int))) else false) then (x3 == a0.Reason) else false) then (!x4) else false)
noncomputable def number_Dec (a0 : Int) : Option Bytes :=
 (strconv_FmtU a0 (10 : Int)).bind fun x1 =>
 some x1
noncomputable def start_Print (a0 : S_Start) : Option (Bytes × Int) :=
 (start_Right a0).bind fun x1 =>
 bif (!x1) then
  some (([] : Bytes), (1 : Int))
 else
  (number_Dec (IntKind.u64.wrap a0.Minor)).bind fun x2 =>
  (cat ([72, 84, 84, 80, 47, 49, 46] : Bytes) x2).bind fun x3 =>
  bif (a0.Code == (0 : Int)) then
   (strings_Join ([a0.Method, a0.Target, x3] : List Bytes) ([32] : Bytes)).bind fun x4 =>
   some (x4, (0 : Int))
  else
   (number_Dec (IntKind.u64.wrap a0.Code)).bind fun x5 =>
   (strings_Join ([x3, x5, a0.Reason] : List Bytes) ([32] : Bytes)).bind fun x6 =>
   some (x6, (0 : Int))
noncomputable def number_Hex (a0 : Int) : Option Bytes :=
 (strconv_FmtU a0 (16 : Int)).bind fun x1 =>
 some x1
noncomputable def chunk_Encode (a0 : Bytes) : Option Bytes :=
 bif (a0 == ([] : Bytes)) then
  some ([] : Bytes)
 else
  (number_Hex (IntKind.u64.wrap (a0.length : Int))).bind fun x1 =>
  (cat x1 ([13, 10] : Bytes)).bind fun x2 =>
  (cat x2 a0).bind fun x3 =>
  (cat x3 ([13, 10] : Bytes)).bind fun x4 =>
  some x4
noncomputable def chunk_End : Option Bytes :=
 some ([48, 13, 10, 13, 10] : Bytes)
noncomputable def table_named (a0 : Bytes) : Option Bytes :=
 some a0
noncomputable def table_keep_api_Field_b1 (a0 : (List S_Field)) (a1i : S_Field → Option Bool) (x : ((List S_Field) × Int)) : Option (((List S_Field) × Int) ⊕ (List S_Field)) :=
 match x with
 | (s2, s3) =>
  bif (decide (s3 < (a0.length : Int))) then
   (idx a0 s3).bind fun x4 =>
   (a1i x4).bind fun x5 =>
   bif x5 then
    (app 32 s2 ([x4] : List S_Field)).bind fun x6 =>
    some (.inl (x6, (IntKind.i64.wrap (s3 + (1 : Int)))))
   else
    some (.inl (s2, (IntKind.i64.wrap (s3 + (1 : Int)))))
  else
   some (.inr s2)
noncomputable def table_keep_api_Field (a0 : (List S_Field)) (a1i : S_Field → Option Bool) : Option (List S_Field) :=
 (loopO (table_keep_api_Field_b1 a0 a1i) (([] : List S_Field), (0 : Int)) : Option (List S_Field)).bind fun j1 =>
 some j1
noncomputable def table_Remove_1 (a0 : S_Field) (c0i : S_Field → Option Bool) : Option Bool :=
 (c0i a0).bind fun x1 =>
 some (!x1)
noncomputable def text_Lower_b1 (a0 : Bytes) (x : (Int × (List UInt8))) : Option ((Int × (List UInt8)) ⊕ (List UInt8)) :=
 match x with
 | (s2, s3) =>
  bif (decide (s2 < ((a0.length : Nat) : Int))) then
   chk (0 ≤ s2 ∧ s2 < (a0.length : Int)) <|
   (idx s3 s2).bind fun x5 =>
   bif (bif (decide ((x5.toNat : Int) ≥ (65 : Int))) then (decide ((x5.toNat : Int) ≤ (90 : Int))) else false) then
    chk (0 ≤ s2 ∧ s2 < (a0.length : Int)) <|
    (seti s3 s2 (u8 (IntKind.u8.wrap ((IntKind.u8.wrap ((x5.toNat : Int) + (97 : Int))) - (65 : Int))))).bind fun x7 =>
    some (.inl ((IntKind.i64.wrap (s2 + (1 : Int))), x7))
   else
    some (.inl ((IntKind.i64.wrap (s2 + (1 : Int))), s3))
  else
   some (.inr s3)
noncomputable def text_Lower (a0 : Bytes) : Option Bytes :=
 (loopO (text_Lower_b1 a0) ((0 : Int), a0) : Option (List UInt8)).bind fun j1 =>
 chk (a0.length ≤ j1.length) <|
 some (j1.take a0.length)
noncomputable def text_Same (a0 : Bytes) (a1 : Bytes) : Option Bool :=
 (text_Lower a0).bind fun x1 =>
 (text_Lower a1).bind fun x2 =>
 some (x1 == x2)
noncomputable def table_named_1 (a0 : S_Field) (c0 : Bytes) : Option Bool :=
 (text_Same a0.Name c0).bind fun x1 =>
 some x1
noncomputable def table_Remove (a0 : (List S_Field)) (a1 : Bytes) : Option (List S_Field) :=
 (table_named a1).bind fun x1 =>
 (table_keep_api_Field a0 (fun x0 => table_Remove_1 x0 (fun x0 => table_named_1 x0 x1))).bind fun x2 =>
 some x2
noncomputable def frame_With (a0 : (List S_Field)) (a1 : S_Body) : Option ((List S_Field) × Int) :=
 (table_Right a0).bind fun x1 =>
 bif (bif (bif (bif (bif (!x1) then true else (decide (a1.Size < (0 : Int)))) then true else (decide (a1.Size > (20000 : Int)))) then true else (decide (a1.Kind < (0 : Int)))) then true else (decide (a1.Kind > (3 : Int)))) then
  some (([] : List S_Field), (1 : Int))
 else
  (table_Remove a0 ([67, 111, 110, 116, 101, 110, 116, 45, 76, 101, 110, 103, 116, 104] : Bytes)).bind fun x2 =>
  (table_Remove x2 ([84, 114, 97, 110, 115, 102, 101, 114, 45, 69, 110, 99, 111, 100, 105, 110, 103] : Bytes)).bind fun x3 =>
  bif (a1.Kind == (1 : Int)) then
   (number_Dec (IntKind.u64.wrap a1.Size)).bind fun x4 =>
   (table_Add x3 ([67, 111, 110, 116, 101, 110, 116, 45, 76, 101, 110, 103, 116, 104] : Bytes) x4).bind fun x5 =>
   some (x5.1, x5.2)
  else
   bif (a1.Kind == (2 : Int)) then
    (table_Add x3 ([84, 114, 97, 110, 115, 102, 101, 114, 45, 69, 110, 99, 111, 100, 105, 110, 103] : Bytes) ([99, 104, 117, 110, 107, 101, 100] : Bytes)).bind fun x6 =>
    some (x6.1, x6.2)
   else
    some (x3, (0 : Int))
noncomputable def head_Print_b1 (a0 : (List S_Field)) (x : (Int × Bytes)) : Option ((Int × Bytes) ⊕ Bytes) :=
 match x with
 | (s3, s4) =>
  bif (decide (s3 < (a0.length : Int))) then
   (idx a0 s3).bind fun x5 =>
   (cat x5.Name ([58, 32] : Bytes)).bind fun x6 =>
   (cat x6 x5.Value).bind fun x7 =>
   (cat x7 ([13, 10] : Bytes)).bind fun x8 =>
   (bcat s4 x8).bind fun x9 =>
   some (.inl ((IntKind.i64.wrap (s3 + (1 : Int))), (s4 ++ x8)))
  else
   some (.inr s4)
noncomputable def head_Print (a0 : (List S_Field)) : Option (Bytes × Int) :=
 (table_Right a0).bind fun x1 =>
 bif (!x1) then
  some (([] : Bytes), (1 : Int))
 else
  (loopO (head_Print_b1 a0) ((0 : Int), ([] : Bytes)) : Option Bytes).bind fun j2 =>
  (bcat j2 []).bind fun x10 =>
  bif (decide ((j2.length : Int) > (4000 : Int))) then
   some (([] : Bytes), (2 : Int))
  else
   (bcat j2 []).bind fun x11 =>
   some (j2, (0 : Int))
noncomputable def wire_Write (a0 : S_Message) (a1 : Bool) : Option (Bytes × Int) :=
 (start_Print a0.Start).bind fun x1 =>
 (gcall (!(x1.2 != (0 : Int))) (table_Right a0.Fields)).bind fun x2 =>
 bif (bif (bif (x1.2 != (0 : Int)) then true else (!x2)) then true else (decide ((a0.Body.length : Int) > (20000 : Int)))) then
  some (([] : Bytes), (1 : Int))
 else
  bif a1 then
   (chunk_Encode a0.Body).bind fun x3 =>
   chunk_End.bind fun x4 =>
   (cat x3 x4).bind fun x5 =>
   (frame_With a0.Fields (S_Body.mk (2 : Int) (0 : Int))).bind fun x6 =>
   bif (x6.2 != (0 : Int)) then
    some (([] : Bytes), x6.2)
   else
    (head_Print x6.1).bind fun x7 =>
    bif (x7.2 != (0 : Int)) then
     some (([] : Bytes), x7.2)
    else
     (cat x1.1 ([13, 10] : Bytes)).bind fun x8 =>
     (cat x8 x7.1).bind fun x9 =>
     (cat x9 ([13, 10] : Bytes)).bind fun x10 =>
     (cat x10 x5).bind fun x11 =>
     some (x11, (0 : Int))
  else
   (frame_With a0.Fields (S_Body.mk (1 : Int) (a0.Body.length : Int))).bind fun x12 =>
   bif (x12.2 != (0 : Int)) then
    some (([] : Bytes), x12.2)
   else
    (head_Print x12.1).bind fun x13 =>
    bif (x13.2 != (0 : Int)) then
     some (([] : Bytes), x13.2)
    else
     (cat x1.1 ([13, 10] : Bytes)).bind fun x14 =>
     (cat x14 x13.1).bind fun x15 =>
     (cat x15 ([13, 10] : Bytes)).bind fun x16 =>
     (cat x16 a0.Body).bind fun x17 =>
     some (x17, (0 : Int))
noncomputable def intarsiaref03_Lower_b1 (a0 : Bytes) (x : (Bytes × Int)) : Option ((Bytes × Int) ⊕ Bytes) :=
 match x with
 | (s2, s3) =>
  bif (decide (s3 < (a0.length : Int))) then
   (idx a0 s3).bind fun x4 =>
   bif (bif (decide ((x4.toNat : Int) ≥ (65 : Int))) then (decide ((x4.toNat : Int) ≤ (90 : Int))) else false) then
    (cat s2 ([u8 (IntKind.u8.wrap ((x4.toNat : Int) + (32 : Int)))] : List UInt8)).bind fun x5 =>
    some (.inl (x5, (IntKind.i64.wrap (s3 + (1 : Int)))))
   else
    (cat s2 ([u8 (x4.toNat : Int)] : List UInt8)).bind fun x6 =>
    some (.inl (x6, (IntKind.i64.wrap (s3 + (1 : Int)))))
  else
   some (.inr s2)
noncomputable def intarsiaref03_Lower (a0 : Bytes) : Option Bytes :=
 (loopO (intarsiaref03_Lower_b1 a0) (([] : Bytes), (0 : Int)) : Option Bytes).bind fun j1 =>
 some j1
noncomputable def intarsiaref04_same (a0 : Bytes) (a1 : Bytes) : Option Bool :=
 (intarsiaref03_Lower a0).bind fun x1 =>
 (intarsiaref03_Lower a1).bind fun x2 =>
 some (x1 == x2)
noncomputable def intarsiaref04_Remove_b1 (a0 : (List S_Field)) (a1 : Bytes) (x : ((List S_Field) × Int)) : Option (((List S_Field) × Int) ⊕ (List S_Field)) :=
 match x with
 | (s2, s3) =>
  bif (decide (s3 < (a0.length : Int))) then
   (idx a0 s3).bind fun x4 =>
   (intarsiaref04_same x4.Name a1).bind fun x5 =>
   bif (!x5) then
    (app 32 s2 ([x4] : List S_Field)).bind fun x6 =>
    some (.inl (x6, (IntKind.i64.wrap (s3 + (1 : Int)))))
   else
    some (.inl (s2, (IntKind.i64.wrap (s3 + (1 : Int)))))
  else
   some (.inr s2)
noncomputable def intarsiaref04_Remove (a0 : (List S_Field)) (a1 : Bytes) : Option (List S_Field) :=
 (loopO (intarsiaref04_Remove_b1 a0 a1) (([] : List S_Field), (0 : Int)) : Option (List S_Field)).bind fun j1 =>
 some j1
noncomputable def wire_New (a0 : Bool) (a1 : Bytes) : Option S_Reader :=
 some (S_Reader.mk a0 a1 ([] : Bytes) false (S_Message.mk (S_Start.mk ([] : Bytes) ([] : Bytes) (0 : Int) ([] : Bytes) (0 : Int)) ([] : List S_Field) ([] : Bytes)) (S_Body.mk (0 : Int) (0 : Int)) (S_Chunked.mk (0 : Int) ([] : Bytes) (0 : Int) (0 : Int)) (0 : Int))
noncomputable def wire_empty (a0 : S_Message) : Option Bool :=
 some (bif (bif ((a0.Start.Method == ([] : Bytes)) && ((a0.Start.Target == ([] : Bytes)) && ((a0.Start.Code == (0 : Int)) && ((a0.Start.Reason == ([] : Bytes)) && ((a0.Start.Minor == (0 : Int)) && true))))) then ((a0.Fields.length : Int) == (0 : Int)) else false) then (a0.Body == ([] : Bytes)) else false)
noncomputable def wire_bare (a0 : S_Reader) : Option Bool :=
 (gcall (bif (a0.Buf == ([] : Bytes)) then (!a0.In) else false) (wire_empty a0.Head)).bind fun x1 =>
 some (bif (bif (bif (bif (a0.Buf == ([] : Bytes)) then (!a0.In) else false) then x1 else false) then ((a0.Body.Kind == (0 : Int)) && ((a0.Body.Size == (0 : Int)) && true)) else false) then ((a0.Chunk.Stage == (0 : Int)) && ((a0.Chunk.Line == ([] : Bytes)) && ((a0.Chunk.Left == (0 : Int)) && ((a0.Chunk.Size == (0 : Int)) && true)))) else false)
noncomputable def table_All_b1 (x3 : (List S_Field)) (x : ((List Bytes) × Int)) : Option (((List Bytes) × Int) ⊕ (List Bytes)) :=
 match x with
 | (s4, s5) =>
  bif (decide (s5 < (x3.length : Int))) then
   (idx x3 s5).bind fun x6 =>
   (app 16 s4 ([x6.Value] : List Bytes)).bind fun x7 =>
   some (.inl (x7, (IntKind.i64.wrap (s5 + (1 : Int)))))
  else
   some (.inr s4)
noncomputable def table_All (a0 : (List S_Field)) (a1 : Bytes) : Option (List Bytes) :=
 ((table_named a1).bind fun x2 =>
 (table_keep_api_Field a0 (fun x0 => table_named_1 x0 x2)).bind fun x3 =>
 loopO (table_All_b1 x3) (([] : List Bytes), (0 : Int)) : Option (List Bytes)).bind fun j1 =>
 some j1
noncomputable def table_Joined (a0 : (List S_Field)) (a1 : Bytes) : Option (Bytes × Bool) :=
 (table_All a0 a1).bind fun x1 =>
 (strings_Join x1 ([44, 32] : Bytes)).bind fun x2 =>
 some (x2, (decide ((x1.length : Int) > (0 : Int))))
noncomputable def number_read_uint64_b1 (a0 : Bytes) (a1 : Int) (a2i : Int → Option Int) (x : (Int × Bool × Int)) : Option ((Int × Bool × Int) ⊕ (Int × Int)) :=
 match x with
 | (s1, s2, s3) =>
  bif (decide (s3 < (a0.length : Int))) then
   (idx a0 s3).bind fun x4 =>
   (a2i (x4.toNat : Int)).bind fun x5 =>
   bif (decide (x5 ≥ a1)) then
    some (.inr ((0 : Int), (10 : Int)))
   else
    bif (decide ((IntKind.u64.wrap ((IntKind.u64.wrap (s1 * a1)) + x5)) > (1099511627776 : Int))) then
     some (.inl ((0 : Int), true, (IntKind.i64.wrap (s3 + (1 : Int)))))
    else
     some (.inl ((IntKind.u64.wrap ((IntKind.u64.wrap (s1 * a1)) + x5)), s2, (IntKind.i64.wrap (s3 + (1 : Int)))))
  else
   bif s2 then
    some (.inr ((0 : Int), (2 : Int)))
   else
    some (.inr (s1, (0 : Int)))
noncomputable def number_read_uint64 (a0 : Bytes) (a1 : Int) (a2i : Int → Option Int) : Option (Int × Int) :=
 bif (a0 == ([] : Bytes)) then
  some ((0 : Int), (10 : Int))
 else
  loopO (number_read_uint64_b1 a0 a1 a2i) ((IntKind.u64.wrap (0 : Int)), false, (0 : Int))
noncomputable def number_ReadDec_1 (a0 : Int) : Option Int :=
 some (IntKind.u64.wrap (IntKind.u8.wrap (a0 - (48 : Int))))
noncomputable def number_ReadDec (a0 : Bytes) : Option (Int × Int) :=
 (number_read_uint64 a0 (10 : Int) (fun x0 => number_ReadDec_1 x0)).bind fun x1 =>
 some (x1.1, x1.2)
noncomputable def frame_say_b1 (x1 : (List Bytes)) (x : (Bool × Int × S_Body)) : Option ((Bool × Int × S_Body) ⊕ (S_Body × Int)) :=
 match x with
 | (s4, s5, s6) =>
  bif (decide (s5 < (x1.length : Int))) then
   (idx x1 s5).bind fun x7 =>
   (number_ReadDec x7).bind fun x8 =>
   bif (x8.2 == (2 : Int)) then
    bif (bif (x8.2 == (10 : Int)) then true else (bif (decide (s5 > (0 : Int))) then (!(((1 : Int) == s6.Kind) && (((-1 : Int) == s6.Size) && true))) else false)) then
     some (.inr ((S_Body.mk (0 : Int) (0 : Int)), (32 : Int)))
    else
     some (.inl ((bif (decide ((-1 : Int) < (0 : Int))) then true else (decide ((-1 : Int) > (20000 : Int)))), (IntKind.i64.wrap (s5 + (1 : Int))), (S_Body.mk (1 : Int) (-1 : Int))))
   else
    bif (bif (x8.2 == (10 : Int)) then true else (bif (decide (s5 > (0 : Int))) then (!(((1 : Int) == s6.Kind) && (((IntKind.i64.wrap x8.1) == s6.Size) && true))) else false)) then
     some (.inr ((S_Body.mk (0 : Int) (0 : Int)), (32 : Int)))
    else
     some (.inl ((bif (decide ((IntKind.i64.wrap x8.1) < (0 : Int))) then true else (decide ((IntKind.i64.wrap x8.1) > (20000 : Int)))), (IntKind.i64.wrap (s5 + (1 : Int))), (S_Body.mk (1 : Int) (IntKind.i64.wrap x8.1))))
  else
   bif s4 then
    some (.inr ((S_Body.mk (0 : Int) (0 : Int)), (2 : Int)))
   else
    some (.inr (s6, (0 : Int)))
noncomputable def frame_say (a0 : Int) (a1 : (List S_Field)) (a2 : S_Body) : Option (S_Body × Int) :=
 (table_All a1 ([67, 111, 110, 116, 101, 110, 116, 45, 76, 101, 110, 103, 116, 104] : Bytes)).bind fun x1 =>
 (table_Joined a1 ([84, 114, 97, 110, 115, 102, 101, 114, 45, 69, 110, 99, 111, 100, 105, 110, 103] : Bytes)).bind fun x2 =>
 bif x2.2 then
  (gcall (!(bif (decide ((x1.length : Int) > (0 : Int))) then true else (a0 == (0 : Int)))) (text_Same x2.1 ([99, 104, 117, 110, 107, 101, 100] : Bytes))).bind fun x3 =>
  bif (bif (bif (decide ((x1.length : Int) > (0 : Int))) then true else (a0 == (0 : Int))) then true else (!x3)) then
   some ((S_Body.mk (0 : Int) (0 : Int)), (32 : Int))
  else
   some ((S_Body.mk (2 : Int) (0 : Int)), (0 : Int))
 else
  loopO (frame_say_b1 x1) (false, (0 : Int), a2)
noncomputable def frame_Request (a0 : S_Start) (a1 : (List S_Field)) : Option (S_Body × Int) :=
 (start_Right a0).bind fun x1 =>
 (gcall (!(bif (!x1) then true else (a0.Code != (0 : Int)))) (table_Right a1)).bind fun x2 =>
 bif (bif (bif (!x1) then true else (a0.Code != (0 : Int))) then true else (!x2)) then
  some ((S_Body.mk (0 : Int) (0 : Int)), (1 : Int))
 else
  (frame_say a0.Minor a1 (S_Body.mk (0 : Int) (0 : Int))).bind fun x3 =>
  some (x3.1, x3.2)
noncomputable def frame_Answer (a0 : S_Start) (a1 : (List S_Field)) (a2 : Bytes) : Option (S_Body × Int) :=
 (start_Right a0).bind fun x1 =>
 (gcall (!(bif (!x1) then true else (a0.Code == (0 : Int)))) (table_Right a1)).bind fun x2 =>
 bif (bif (bif (!x1) then true else (a0.Code == (0 : Int))) then true else (!x2)) then
  some ((S_Body.mk (0 : Int) (0 : Int)), (1 : Int))
 else
  bif (bif (bif (bif (decide (a0.Code < (200 : Int))) then true else (a0.Code == (204 : Int))) then true else (a0.Code == (304 : Int))) then true else (a2 == ([72, 69, 65, 68] : Bytes))) then
   some ((S_Body.mk (0 : Int) (0 : Int)), (0 : Int))
  else
   (frame_say a0.Minor a1 (S_Body.mk (3 : Int) (0 : Int))).bind fun x3 =>
   some (x3.1, x3.2)
noncomputable def wire_body (a0 : S_Reader) : Option (S_Body × Int) :=
 bif a0.Asks then
  (frame_Request a0.Head.Start a0.Head.Fields).bind fun x1 =>
  some (x1.1, x1.2)
 else
  (frame_Answer a0.Head.Start a0.Head.Fields a0.Method).bind fun x2 =>
  some (x2.1, x2.2)
noncomputable def strings_Contains (a0 : Bytes) (a1 : Bytes) : Option Bool :=
 (strings_Index a0 a1).bind fun x1 =>
 some (decide (x1 ≥ (0 : Int)))
noncomputable def chunk_Right (a0 : S_Chunked) : Option Bool :=
 (gcall (!(bif (bif (bif (bif (decide (a0.Stage < (0 : Int))) then true else (decide (a0.Stage > (4 : Int)))) then true else (decide (a0.Size < (0 : Int)))) then true else (decide (a0.Size > (20000 : Int)))) then true else (decide ((a0.Line.length : Int) > (200 : Int))))) (strings_Contains a0.Line ([10] : Bytes))).bind fun x1 =>
 bif (bif (bif (bif (bif (bif (decide (a0.Stage < (0 : Int))) then true else (decide (a0.Stage > (4 : Int)))) then true else (decide (a0.Size < (0 : Int)))) then true else (decide (a0.Size > (20000 : Int)))) then true else (decide ((a0.Line.length : Int) > (200 : Int)))) then true else x1) then
  some false
 else
  bif (a0.Stage == (1 : Int)) then
   some (bif (bif (decide (a0.Left ≥ (1 : Int))) then (decide (a0.Left ≤ (IntKind.i64.wrap ((20000 : Int) - a0.Size)))) else false) then (a0.Line == ([] : Bytes)) else false)
  else
   some (bif (a0.Left == (0 : Int)) then (bif (a0.Stage != (4 : Int)) then true else (a0.Line == ([] : Bytes))) else false)
noncomputable def wire_Right (a0 : S_Reader) : Option Bool :=
 bif (a0.Bad != (0 : Int)) then
  (wire_bare a0).bind fun x1 =>
  some x1
 else
  bif (!a0.In) then
   (wire_bare (S_Reader.mk a0.Asks a0.Method ([] : Bytes) a0.In a0.Head a0.Body a0.Chunk a0.Bad)).bind fun x2 =>
   some (bif x2 then (decide ((a0.Buf.length : Int) ≤ (4000 : Int))) else false)
  else
   (wire_body a0).bind fun x3 =>
   bif (bif (bif (bif (x3.2 != (0 : Int)) then true else (!((x3.1.Kind == a0.Body.Kind) && ((x3.1.Size == a0.Body.Size) && true)))) then true else (!(a0.Buf == ([] : Bytes)))) then true else (bif (x3.1.Kind != (2 : Int)) then (!((a0.Chunk.Stage == (0 : Int)) && ((a0.Chunk.Line == ([] : Bytes)) && ((a0.Chunk.Left == (0 : Int)) && ((a0.Chunk.Size == (0 : Int)) && true))))) else false)) then
    some false
   else
    bif (x3.1.Kind == (1 : Int)) then
     some (decide ((a0.Head.Body.length : Int) < x3.1.Size))
    else
     bif (x3.1.Kind == (2 : Int)) then
      (chunk_Right a0.Chunk).bind fun x4 =>
      some (bif (bif x4 then (a0.Chunk.Stage != (4 : Int)) else false) then (a0.Chunk.Size == (a0.Head.Body.length : Int)) else false)
     else
      bif (x3.1.Kind == (3 : Int)) then
       some (decide ((a0.Head.Body.length : Int) ≤ (20000 : Int)))
      else
       some false
noncomputable def wire_reading_whole (o0 : S_wire_reading) : Option (Bool × S_wire_reading) :=
 (app 104 o0.out ([o0.Reader.Head] : List S_Message)).bind fun x1 =>
 some (true, (S_wire_reading.mk (S_Reader.mk o0.Reader.Asks o0.Reader.Method o0.Reader.Buf false (S_Message.mk (S_Start.mk ([] : Bytes) ([] : Bytes) (0 : Int) ([] : Bytes) (0 : Int)) ([] : List S_Field) ([] : Bytes)) (S_Body.mk (0 : Int) (0 : Int)) (S_Chunked.mk (0 : Int) ([] : Bytes) (0 : Int) (0 : Int)) o0.Reader.Bad) x1))
noncomputable def chunk_state_end (o0 : S_chunk_state) (a1 : Bytes) : Option (Unit × S_chunk_state) :=
 bif (!(a1 == ([] : Bytes))) then
  some ((), (S_chunk_state.mk (S_Chunked.mk (0 : Int) o0.Chunked.Line o0.Chunked.Left o0.Chunked.Size) (33 : Int)))
 else
  some ((), (S_chunk_state.mk (S_Chunked.mk (0 : Int) o0.Chunked.Line o0.Chunked.Left o0.Chunked.Size) o0.bad))
noncomputable def chunk_state_tail (o0 : S_chunk_state) (a1 : Bytes) : Option (Unit × S_chunk_state) :=
 bif (a1 == ([] : Bytes)) then
  some ((), (S_chunk_state.mk (S_Chunked.mk (4 : Int) o0.Chunked.Line o0.Chunked.Left o0.Chunked.Size) o0.bad))
 else
  some ((), o0)
noncomputable def number_ReadHex_1 (a0 : Int) : Option Int :=
 bif (bif (decide (a0 ≥ (48 : Int))) then (decide (a0 ≤ (57 : Int))) else false) then
  some (IntKind.u64.wrap (IntKind.u8.wrap (a0 - (48 : Int))))
 else
  bif (bif (decide (a0 ≥ (65 : Int))) then (decide (a0 ≤ (70 : Int))) else false) then
   some (IntKind.u64.wrap ((IntKind.u64.wrap (IntKind.u8.wrap (a0 - (65 : Int)))) + (10 : Int)))
  else
   bif (bif (decide (a0 ≥ (97 : Int))) then (decide (a0 ≤ (102 : Int))) else false) then
    some (IntKind.u64.wrap ((IntKind.u64.wrap (IntKind.u8.wrap (a0 - (97 : Int)))) + (10 : Int)))
   else
    some (16 : Int)
noncomputable def number_ReadHex (a0 : Bytes) : Option (Int × Int) :=
 (number_read_uint64 a0 (16 : Int) (fun x0 => number_ReadHex_1 x0)).bind fun x1 =>
 some (x1.1, x1.2)
noncomputable def chunk_state_size (o0 : S_chunk_state) (a1 : Bytes) : Option (Unit × S_chunk_state) :=
 (strings_Cut a1 ([59] : Bytes)).bind fun x1 =>
 (text_Trim x1.1).bind fun x2 =>
 (number_ReadHex x2).bind fun x3 =>
 bif (x3.2 == (10 : Int)) then
  some ((), (S_chunk_state.mk o0.Chunked (33 : Int)))
 else
  bif (bif (x3.2 != (0 : Int)) then true else (decide (x3.1 > (IntKind.u64.wrap (IntKind.i64.wrap ((20000 : Int) - o0.Chunked.Size)))))) then
   some ((), (S_chunk_state.mk o0.Chunked (2 : Int)))
  else
   bif (x3.1 == (0 : Int)) then
    some ((), (S_chunk_state.mk (S_Chunked.mk (3 : Int) o0.Chunked.Line o0.Chunked.Left o0.Chunked.Size) o0.bad))
   else
    some ((), (S_chunk_state.mk (S_Chunked.mk (1 : Int) o0.Chunked.Line (IntKind.i64.wrap x3.1) o0.Chunked.Size) o0.bad))
noncomputable def chunk_state_line (o0 : S_chunk_state) (a1 : Bytes) : Option (Int × S_chunk_state) :=
 bif (o0.Chunked.Stage == (2 : Int)) then
  (strings_IndexByte a1 (10 : Int)).bind fun x1 =>
  bif (decide (x1 ≥ (0 : Int))) then
   (slc a1 0 x1).bind fun x2 =>
   bif (decide ((IntKind.i64.wrap ((o0.Chunked.Line.length : Int) + (x2.length : Int))) > (200 : Int))) then
    some ((0 : Int), (S_chunk_state.mk o0.Chunked (33 : Int)))
   else
    (cat o0.Chunked.Line x2).bind fun x3 =>
    bif (decide (x1 < (0 : Int))) then
     some ((a1.length : Int), (S_chunk_state.mk (S_Chunked.mk o0.Chunked.Stage x3 o0.Chunked.Left o0.Chunked.Size) o0.bad))
    else
     (strings_TrimSuffix x3 ([13] : Bytes)).bind fun x4 =>
     (chunk_state_end (S_chunk_state.mk (S_Chunked.mk o0.Chunked.Stage ([] : Bytes) o0.Chunked.Left o0.Chunked.Size) o0.bad) x4).bind fun x5 =>
     some ((IntKind.i64.wrap (x1 + (1 : Int))), x5.2)
  else
   bif (decide ((IntKind.i64.wrap ((o0.Chunked.Line.length : Int) + (a1.length : Int))) > (200 : Int))) then
    some ((0 : Int), (S_chunk_state.mk o0.Chunked (33 : Int)))
   else
    (cat o0.Chunked.Line a1).bind fun x6 =>
    bif (decide (x1 < (0 : Int))) then
     some ((a1.length : Int), (S_chunk_state.mk (S_Chunked.mk o0.Chunked.Stage x6 o0.Chunked.Left o0.Chunked.Size) o0.bad))
    else
     (strings_TrimSuffix x6 ([13] : Bytes)).bind fun x7 =>
     (chunk_state_end (S_chunk_state.mk (S_Chunked.mk o0.Chunked.Stage ([] : Bytes) o0.Chunked.Left o0.Chunked.Size) o0.bad) x7).bind fun x8 =>
     some ((IntKind.i64.wrap (x1 + (1 : Int))), x8.2)
 else
  bif (o0.Chunked.Stage == (3 : Int)) then
   (strings_IndexByte a1 (10 : Int)).bind fun x9 =>
   bif (decide (x9 ≥ (0 : Int))) then
    (slc a1 0 x9).bind fun x10 =>
    bif (decide ((IntKind.i64.wrap ((o0.Chunked.Line.length : Int) + (x10.length : Int))) > (200 : Int))) then
     some ((0 : Int), (S_chunk_state.mk o0.Chunked (33 : Int)))
    else
     (cat o0.Chunked.Line x10).bind fun x11 =>
     bif (decide (x9 < (0 : Int))) then
      some ((a1.length : Int), (S_chunk_state.mk (S_Chunked.mk o0.Chunked.Stage x11 o0.Chunked.Left o0.Chunked.Size) o0.bad))
     else
      (strings_TrimSuffix x11 ([13] : Bytes)).bind fun x12 =>
      (chunk_state_tail (S_chunk_state.mk (S_Chunked.mk o0.Chunked.Stage ([] : Bytes) o0.Chunked.Left o0.Chunked.Size) o0.bad) x12).bind fun x13 =>
      some ((IntKind.i64.wrap (x9 + (1 : Int))), x13.2)
   else
    bif (decide ((IntKind.i64.wrap ((o0.Chunked.Line.length : Int) + (a1.length : Int))) > (200 : Int))) then
     some ((0 : Int), (S_chunk_state.mk o0.Chunked (33 : Int)))
    else
     (cat o0.Chunked.Line a1).bind fun x14 =>
     bif (decide (x9 < (0 : Int))) then
      some ((a1.length : Int), (S_chunk_state.mk (S_Chunked.mk o0.Chunked.Stage x14 o0.Chunked.Left o0.Chunked.Size) o0.bad))
     else
      (strings_TrimSuffix x14 ([13] : Bytes)).bind fun x15 =>
      (chunk_state_tail (S_chunk_state.mk (S_Chunked.mk o0.Chunked.Stage ([] : Bytes) o0.Chunked.Left o0.Chunked.Size) o0.bad) x15).bind fun x16 =>
      some ((IntKind.i64.wrap (x9 + (1 : Int))), x16.2)
  else
   (strings_IndexByte a1 (10 : Int)).bind fun x17 =>
   bif (decide (x17 ≥ (0 : Int))) then
    (slc a1 0 x17).bind fun x18 =>
    bif (decide ((IntKind.i64.wrap ((o0.Chunked.Line.length : Int) + (x18.length : Int))) > (200 : Int))) then
     some ((0 : Int), (S_chunk_state.mk o0.Chunked (33 : Int)))
    else
     (cat o0.Chunked.Line x18).bind fun x19 =>
     bif (decide (x17 < (0 : Int))) then
      some ((a1.length : Int), (S_chunk_state.mk (S_Chunked.mk o0.Chunked.Stage x19 o0.Chunked.Left o0.Chunked.Size) o0.bad))
     else
      (strings_TrimSuffix x19 ([13] : Bytes)).bind fun x20 =>
      (chunk_state_size (S_chunk_state.mk (S_Chunked.mk o0.Chunked.Stage ([] : Bytes) o0.Chunked.Left o0.Chunked.Size) o0.bad) x20).bind fun x21 =>
      some ((IntKind.i64.wrap (x17 + (1 : Int))), x21.2)
   else
    bif (decide ((IntKind.i64.wrap ((o0.Chunked.Line.length : Int) + (a1.length : Int))) > (200 : Int))) then
     some ((0 : Int), (S_chunk_state.mk o0.Chunked (33 : Int)))
    else
     (cat o0.Chunked.Line a1).bind fun x22 =>
     bif (decide (x17 < (0 : Int))) then
      some ((a1.length : Int), (S_chunk_state.mk (S_Chunked.mk o0.Chunked.Stage x22 o0.Chunked.Left o0.Chunked.Size) o0.bad))
     else
      (strings_TrimSuffix x22 ([13] : Bytes)).bind fun x23 =>
      (chunk_state_size (S_chunk_state.mk (S_Chunked.mk o0.Chunked.Stage ([] : Bytes) o0.Chunked.Left o0.Chunked.Size) o0.bad) x23).bind fun x24 =>
      some ((IntKind.i64.wrap (x17 + (1 : Int))), x24.2)
noncomputable def chunk_Feed_b1 (a1 : Bytes) (x : (Int × S_chunk_state × Bytes)) : Option ((Int × S_chunk_state × Bytes) ⊕ (S_Chunked × Bytes × Int × Int)) :=
 match x with
 | (s2, s3, s4) =>
  bif (bif (decide (s2 < (a1.length : Int))) then (s3.Chunked.Stage != (4 : Int)) else false) then
   bif (s3.Chunked.Stage != (1 : Int)) then
    (slc a1 s2 (a1.length : Int)).bind fun x5 =>
    (chunk_state_line s3 x5).bind fun x6 =>
    bif (x6.2.bad != (0 : Int)) then
     some (.inr ((S_Chunked.mk (0 : Int) ([] : Bytes) (0 : Int) (0 : Int)), ([] : Bytes), (0 : Int), x6.2.bad))
    else
     some (.inl ((IntKind.i64.wrap (s2 + x6.1)), x6.2, s4))
   else
    (slc a1 s2 (IntKind.i64.wrap (s2 + (imin s3.Chunked.Left (IntKind.i64.wrap ((a1.length : Int) - s2)))))).bind fun x7 =>
    (bcat s4 x7).bind fun x8 =>
    bif ((IntKind.i64.wrap (s3.Chunked.Left - (imin s3.Chunked.Left (IntKind.i64.wrap ((a1.length : Int) - s2))))) == (0 : Int)) then
     some (.inl ((IntKind.i64.wrap (s2 + (imin s3.Chunked.Left (IntKind.i64.wrap ((a1.length : Int) - s2))))), (S_chunk_state.mk (S_Chunked.mk (2 : Int) s3.Chunked.Line (IntKind.i64.wrap (s3.Chunked.Left - (imin s3.Chunked.Left (IntKind.i64.wrap ((a1.length : Int) - s2))))) (IntKind.i64.wrap (s3.Chunked.Size + (imin s3.Chunked.Left (IntKind.i64.wrap ((a1.length : Int) - s2)))))) s3.bad), (s4 ++ x7)))
    else
     some (.inl ((IntKind.i64.wrap (s2 + (imin s3.Chunked.Left (IntKind.i64.wrap ((a1.length : Int) - s2))))), (S_chunk_state.mk (S_Chunked.mk s3.Chunked.Stage s3.Chunked.Line (IntKind.i64.wrap (s3.Chunked.Left - (imin s3.Chunked.Left (IntKind.i64.wrap ((a1.length : Int) - s2))))) (IntKind.i64.wrap (s3.Chunked.Size + (imin s3.Chunked.Left (IntKind.i64.wrap ((a1.length : Int) - s2)))))) s3.bad), (s4 ++ x7)))
  else
   (bcat s4 []).bind fun x9 =>
   some (.inr (s3.Chunked, s4, s2, (0 : Int)))
noncomputable def chunk_Feed (a0 : S_Chunked) (a1 : Bytes) : Option (S_Chunked × Bytes × Int × Int) :=
 (chunk_Right a0).bind fun x1 =>
 bif (!x1) then
  some ((S_Chunked.mk (0 : Int) ([] : Bytes) (0 : Int) (0 : Int)), ([] : Bytes), (0 : Int), (1 : Int))
 else
  loopO (chunk_Feed_b1 a1) ((0 : Int), (S_chunk_state.mk a0 (0 : Int)), ([] : Bytes))
noncomputable def wire_reading_fail (o0 : S_wire_reading) (a1 : Int) : Option (Bool × S_wire_reading) :=
 some (false, (S_wire_reading.mk (S_Reader.mk o0.Reader.Asks o0.Reader.Method ([] : Bytes) false (S_Message.mk (S_Start.mk ([] : Bytes) ([] : Bytes) (0 : Int) ([] : Bytes) (0 : Int)) ([] : List S_Field) ([] : Bytes)) (S_Body.mk (0 : Int) (0 : Int)) (S_Chunked.mk (0 : Int) ([] : Bytes) (0 : Int) (0 : Int)) a1) o0.out))
noncomputable def wire_reading_more (o0 : S_wire_reading) : Option (Bool × S_wire_reading) :=
 bif (o0.Reader.Body.Kind == (0 : Int)) then
  (wire_reading_whole o0).bind fun x1 =>
  some (x1.1, x1.2)
 else
  bif (o0.Reader.Body.Kind == (1 : Int)) then
   (slc o0.Reader.Buf 0 (imin (o0.Reader.Buf.length : Int) (IntKind.i64.wrap (o0.Reader.Body.Size - (o0.Reader.Head.Body.length : Int))))).bind fun x2 =>
   (cat o0.Reader.Head.Body x2).bind fun x3 =>
   (slc o0.Reader.Buf (imin (o0.Reader.Buf.length : Int) (IntKind.i64.wrap (o0.Reader.Body.Size - (o0.Reader.Head.Body.length : Int)))) (o0.Reader.Buf.length : Int)).bind fun x4 =>
   bif ((x3.length : Int) == o0.Reader.Body.Size) then
    (wire_reading_whole (S_wire_reading.mk (S_Reader.mk o0.Reader.Asks o0.Reader.Method x4 o0.Reader.In (S_Message.mk o0.Reader.Head.Start o0.Reader.Head.Fields x3) o0.Reader.Body o0.Reader.Chunk o0.Reader.Bad) o0.out)).bind fun x5 =>
    some ((bif ((x3.length : Int) == o0.Reader.Body.Size) then x5.1 else false), x5.2)
   else
    some (false, (S_wire_reading.mk (S_Reader.mk o0.Reader.Asks o0.Reader.Method x4 o0.Reader.In (S_Message.mk o0.Reader.Head.Start o0.Reader.Head.Fields x3) o0.Reader.Body o0.Reader.Chunk o0.Reader.Bad) o0.out))
  else
   bif (o0.Reader.Body.Kind == (2 : Int)) then
    (chunk_Feed o0.Reader.Chunk o0.Reader.Buf).bind fun x6 =>
    bif (x6.2.2.2 != (0 : Int)) then
     (wire_reading_fail o0 x6.2.2.2).bind fun x7 =>
     some (x7.1, x7.2)
    else
     (cat o0.Reader.Head.Body x6.2.1).bind fun x8 =>
     (slc o0.Reader.Buf x6.2.2.1 (o0.Reader.Buf.length : Int)).bind fun x9 =>
     bif (x6.1.Stage == (4 : Int)) then
      (wire_reading_whole (S_wire_reading.mk (S_Reader.mk o0.Reader.Asks o0.Reader.Method x9 o0.Reader.In (S_Message.mk o0.Reader.Head.Start o0.Reader.Head.Fields x8) o0.Reader.Body x6.1 o0.Reader.Bad) o0.out)).bind fun x10 =>
      some ((bif (x6.1.Stage == (4 : Int)) then x10.1 else false), x10.2)
     else
      some (false, (S_wire_reading.mk (S_Reader.mk o0.Reader.Asks o0.Reader.Method x9 o0.Reader.In (S_Message.mk o0.Reader.Head.Start o0.Reader.Head.Fields x8) o0.Reader.Body x6.1 o0.Reader.Bad) o0.out))
   else
    (cat o0.Reader.Head.Body o0.Reader.Buf).bind fun x11 =>
    bif (decide ((x11.length : Int) > (20000 : Int))) then
     (wire_reading_fail (S_wire_reading.mk (S_Reader.mk o0.Reader.Asks o0.Reader.Method o0.Reader.Buf o0.Reader.In (S_Message.mk o0.Reader.Head.Start o0.Reader.Head.Fields x11) o0.Reader.Body o0.Reader.Chunk o0.Reader.Bad) o0.out) (2 : Int)).bind fun x12 =>
     some (x12.1, x12.2)
    else
     some (false, (S_wire_reading.mk (S_Reader.mk o0.Reader.Asks o0.Reader.Method ([] : Bytes) o0.Reader.In (S_Message.mk o0.Reader.Head.Start o0.Reader.Head.Fields x11) o0.Reader.Body o0.Reader.Chunk o0.Reader.Bad) o0.out))
noncomputable def stringslite_TrimPrefix (a0 : Bytes) (a1 : Bytes) : Option Bytes :=
 (stringslite_HasPrefix a0 a1).bind fun x1 =>
 bif x1 then
  (slc a0 (a1.length : Int) (a0.length : Int)).bind fun x2 =>
  some x2
 else
  some a0
noncomputable def strings_TrimPrefix (a0 : Bytes) (a1 : Bytes) : Option Bytes :=
 (stringslite_TrimPrefix a0 a1).bind fun x1 =>
 some x1
noncomputable def start_minor (a0 : Bytes) : Option Int :=
 bif (a0 == ([72, 84, 84, 80, 47, 49, 46, 48] : Bytes)) then
  some (0 : Int)
 else
  bif (a0 == ([72, 84, 84, 80, 47, 49, 46, 49] : Bytes)) then
   some (1 : Int)
  else
   some (2 : Int)
noncomputable def start_Parse (a0 : Bytes) : Option (S_Start × Int) :=
 (strings_Split a0 ([32] : Bytes)).bind fun x1 =>
 bif ((x1.length : Int) != (3 : Int)) then
  some ((S_Start.mk ([] : Bytes) ([] : Bytes) (0 : Int) ([] : Bytes) (0 : Int)), (30 : Int))
 else
  (idx x1 (0 : Int)).bind fun x2 =>
  (idx x1 (1 : Int)).bind fun x3 =>
  (idx x1 (2 : Int)).bind fun x4 =>
  (start_minor x4).bind fun x5 =>
  (start_Right (S_Start.mk x2 x3 (0 : Int) ([] : Bytes) x5)).bind fun x6 =>
  bif (!x6) then
   some ((S_Start.mk ([] : Bytes) ([] : Bytes) (0 : Int) ([] : Bytes) (0 : Int)), (30 : Int))
  else
   some ((S_Start.mk x2 x3 (0 : Int) ([] : Bytes) x5), (0 : Int))
noncomputable def start_Status (a0 : Bytes) : Option (S_Start × Int) :=
 (strings_SplitN a0 ([32] : Bytes) (3 : Int)).bind fun x1 =>
 (gidx (!(decide ((x1.length : Int) < (2 : Int)))) x1 (1 : Int)).bind fun x2 =>
 bif (bif (decide ((x1.length : Int) < (2 : Int))) then true else ((x2.length : Int) != (3 : Int))) then
  some ((S_Start.mk ([] : Bytes) ([] : Bytes) (0 : Int) ([] : Bytes) (0 : Int)), (30 : Int))
 else
  (idx x1 (1 : Int)).bind fun x3 =>
  (number_ReadDec x3).bind fun x4 =>
  (idx x1 (0 : Int)).bind fun x5 =>
  (start_minor x5).bind fun x6 =>
  bif ((x1.length : Int) == (3 : Int)) then
   (idx x1 (2 : Int)).bind fun x7 =>
   (gcall (!(bif (x4.2 != (0 : Int)) then true else (x4.1 == (0 : Int)))) (start_Right (S_Start.mk ([] : Bytes) ([] : Bytes) (IntKind.i64.wrap x4.1) x7 x6))).bind fun x8 =>
   bif (bif (bif (x4.2 != (0 : Int)) then true else (x4.1 == (0 : Int))) then true else (!x8)) then
    some ((S_Start.mk ([] : Bytes) ([] : Bytes) (0 : Int) ([] : Bytes) (0 : Int)), (30 : Int))
   else
    some ((S_Start.mk ([] : Bytes) ([] : Bytes) (IntKind.i64.wrap x4.1) x7 x6), (0 : Int))
  else
   (gcall (!(bif (x4.2 != (0 : Int)) then true else (x4.1 == (0 : Int)))) (start_Right (S_Start.mk ([] : Bytes) ([] : Bytes) (IntKind.i64.wrap x4.1) ([] : Bytes) x6))).bind fun x9 =>
   bif (bif (bif (x4.2 != (0 : Int)) then true else (x4.1 == (0 : Int))) then true else (!x9)) then
    some ((S_Start.mk ([] : Bytes) ([] : Bytes) (0 : Int) ([] : Bytes) (0 : Int)), (30 : Int))
   else
    some ((S_Start.mk ([] : Bytes) ([] : Bytes) (IntKind.i64.wrap x4.1) ([] : Bytes) x6), (0 : Int))
noncomputable def wire_reading_begin_b1 (s2 : S_wire_reading) : Option (S_wire_reading ⊕ S_wire_reading) :=
 (gcall s2.Reader.Asks (strings_HasPrefix s2.Reader.Buf ([10] : Bytes))).bind fun x3 =>
 (gcall (s2.Reader.Asks && (!x3)) (strings_HasPrefix s2.Reader.Buf ([13, 10] : Bytes))).bind fun x4 =>
 bif (bif s2.Reader.Asks then (bif x3 then true else x4) else false) then
  (strings_TrimPrefix s2.Reader.Buf ([13] : Bytes)).bind fun x5 =>
  (strings_TrimPrefix x5 ([10] : Bytes)).bind fun x6 =>
  some (.inl (S_wire_reading.mk (S_Reader.mk s2.Reader.Asks s2.Reader.Method x6 s2.Reader.In s2.Reader.Head s2.Reader.Body s2.Reader.Chunk s2.Reader.Bad) s2.out))
 else
  some (.inr s2)
noncomputable def wire_reading_begin (o0 : S_wire_reading) : Option (Bool × S_wire_reading) :=
 (loopO wire_reading_begin_b1 o0 : Option S_wire_reading).bind fun j1 =>
 (head_End j1.Reader.Buf).bind fun x7 =>
 bif (x7.2 == (3 : Int)) then
  some (false, j1)
 else
  bif (x7.2 != (0 : Int)) then
   (wire_reading_fail j1 x7.2).bind fun x8 =>
   some (x8.1, x8.2)
  else
   (slc j1.Reader.Buf 0 x7.1).bind fun x9 =>
   (strings_Cut x9 ([10] : Bytes)).bind fun x10 =>
   bif j1.Reader.Asks then
    (strings_TrimSuffix x10.1 ([13] : Bytes)).bind fun x11 =>
    (start_Parse x11).bind fun x12 =>
    bif (x12.2 != (0 : Int)) then
     (wire_reading_fail (S_wire_reading.mk (S_Reader.mk j1.Reader.Asks j1.Reader.Method j1.Reader.Buf j1.Reader.In (S_Message.mk x12.1 j1.Reader.Head.Fields j1.Reader.Head.Body) j1.Reader.Body j1.Reader.Chunk j1.Reader.Bad) j1.out) x12.2).bind fun x13 =>
     some (x13.1, x13.2)
    else
     (strings_TrimSuffix x10.2.1 ([10] : Bytes)).bind fun x14 =>
     (strings_TrimSuffix x14 ([13] : Bytes)).bind fun x15 =>
     (head_Parse x15).bind fun x16 =>
     bif (x16.2 != (0 : Int)) then
      (wire_reading_fail (S_wire_reading.mk (S_Reader.mk j1.Reader.Asks j1.Reader.Method j1.Reader.Buf j1.Reader.In (S_Message.mk x12.1 x16.1 j1.Reader.Head.Body) j1.Reader.Body j1.Reader.Chunk j1.Reader.Bad) j1.out) x16.2).bind fun x17 =>
      some (x17.1, x17.2)
     else
      (wire_body (S_Reader.mk j1.Reader.Asks j1.Reader.Method j1.Reader.Buf j1.Reader.In (S_Message.mk x12.1 x16.1 j1.Reader.Head.Body) j1.Reader.Body j1.Reader.Chunk j1.Reader.Bad)).bind fun x18 =>
      bif (x18.2 != (0 : Int)) then
       (wire_reading_fail (S_wire_reading.mk (S_Reader.mk j1.Reader.Asks j1.Reader.Method j1.Reader.Buf j1.Reader.In (S_Message.mk x12.1 x16.1 j1.Reader.Head.Body) x18.1 j1.Reader.Chunk j1.Reader.Bad) j1.out) x18.2).bind fun x19 =>
       some (x19.1, x19.2)
      else
       (slc j1.Reader.Buf x7.1 (j1.Reader.Buf.length : Int)).bind fun x20 =>
       bif (bif (x12.1.Code != (0 : Int)) then (decide (x12.1.Code < (200 : Int))) else false) then
        some (true, (S_wire_reading.mk (S_Reader.mk j1.Reader.Asks j1.Reader.Method x20 j1.Reader.In (S_Message.mk (S_Start.mk ([] : Bytes) ([] : Bytes) (0 : Int) ([] : Bytes) (0 : Int)) ([] : List S_Field) ([] : Bytes)) (S_Body.mk (0 : Int) (0 : Int)) j1.Reader.Chunk j1.Reader.Bad) j1.out))
       else
        some (true, (S_wire_reading.mk (S_Reader.mk j1.Reader.Asks j1.Reader.Method x20 true (S_Message.mk x12.1 x16.1 j1.Reader.Head.Body) x18.1 j1.Reader.Chunk j1.Reader.Bad) j1.out))
   else
    (strings_TrimSuffix x10.1 ([13] : Bytes)).bind fun x21 =>
    (start_Status x21).bind fun x22 =>
    bif (x22.2 != (0 : Int)) then
     (wire_reading_fail (S_wire_reading.mk (S_Reader.mk j1.Reader.Asks j1.Reader.Method j1.Reader.Buf j1.Reader.In (S_Message.mk x22.1 j1.Reader.Head.Fields j1.Reader.Head.Body) j1.Reader.Body j1.Reader.Chunk j1.Reader.Bad) j1.out) x22.2).bind fun x23 =>
     some (x23.1, x23.2)
    else
     (strings_TrimSuffix x10.2.1 ([10] : Bytes)).bind fun x24 =>
     (strings_TrimSuffix x24 ([13] : Bytes)).bind fun x25 =>
     (head_Parse x25).bind fun x26 =>
     bif (x26.2 != (0 : Int)) then
      (wire_reading_fail (S_wire_reading.mk (S_Reader.mk j1.Reader.Asks j1.Reader.Method j1.Reader.Buf j1.Reader.In (S_Message.mk x22.1 x26.1 j1.Reader.Head.Body) j1.Reader.Body j1.Reader.Chunk j1.Reader.Bad) j1.out) x26.2).bind fun x27 =>
      some (x27.1, x27.2)
     else
      (wire_body (S_Reader.mk j1.Reader.Asks j1.Reader.Method j1.Reader.Buf j1.Reader.In (S_Message.mk x22.1 x26.1 j1.Reader.Head.Body) j1.Reader.Body j1.Reader.Chunk j1.Reader.Bad)).bind fun x28 =>
      bif (x28.2 != (0 : Int)) then
       (wire_reading_fail (S_wire_reading.mk (S_Reader.mk j1.Reader.Asks j1.Reader.Method j1.Reader.Buf j1.Reader.In (S_Message.mk x22.1 x26.1 j1.Reader.Head.Body) x28.1 j1.Reader.Chunk j1.Reader.Bad) j1.out) x28.2).bind fun x29 =>
       some (x29.1, x29.2)
      else
       (slc j1.Reader.Buf x7.1 (j1.Reader.Buf.length : Int)).bind fun x30 =>
       bif (bif (x22.1.Code != (0 : Int)) then (decide (x22.1.Code < (200 : Int))) else false) then
        some (true, (S_wire_reading.mk (S_Reader.mk j1.Reader.Asks j1.Reader.Method x30 j1.Reader.In (S_Message.mk (S_Start.mk ([] : Bytes) ([] : Bytes) (0 : Int) ([] : Bytes) (0 : Int)) ([] : List S_Field) ([] : Bytes)) (S_Body.mk (0 : Int) (0 : Int)) j1.Reader.Chunk j1.Reader.Bad) j1.out))
       else
        some (true, (S_wire_reading.mk (S_Reader.mk j1.Reader.Asks j1.Reader.Method x30 true (S_Message.mk x22.1 x26.1 j1.Reader.Head.Body) x28.1 j1.Reader.Chunk j1.Reader.Bad) j1.out))
noncomputable def wire_Feed_b1 (s3 : S_wire_reading) : Option (S_wire_reading ⊕ (S_Reader × (List S_Message) × Int)) :=
 bif s3.Reader.In then
  (wire_reading_more s3).bind fun x4 =>
  bif (!x4.1) then
   some (.inr (x4.2.Reader, x4.2.out, (0 : Int)))
  else
   some (.inl x4.2)
 else
  (wire_reading_begin s3).bind fun x5 =>
  bif (!x5.1) then
   some (.inr (x5.2.Reader, x5.2.out, (0 : Int)))
  else
   some (.inl x5.2)
noncomputable def wire_Feed (a0 : S_Reader) (a1 : Bytes) : Option (S_Reader × (List S_Message) × Int) :=
 (wire_Right a0).bind fun x1 =>
 bif (!x1) then
  some ((S_Reader.mk false ([] : Bytes) ([] : Bytes) false (S_Message.mk (S_Start.mk ([] : Bytes) ([] : Bytes) (0 : Int) ([] : Bytes) (0 : Int)) ([] : List S_Field) ([] : Bytes)) (S_Body.mk (0 : Int) (0 : Int)) (S_Chunked.mk (0 : Int) ([] : Bytes) (0 : Int) (0 : Int)) (0 : Int)), ([] : List S_Message), (1 : Int))
 else
  bif (a0.Bad != (0 : Int)) then
   some (a0, ([] : List S_Message), (0 : Int))
  else
   (cat a0.Buf a1).bind fun x2 =>
   loopO wire_Feed_b1 (S_wire_reading.mk (S_Reader.mk a0.Asks a0.Method x2 a0.In a0.Head a0.Body a0.Chunk a0.Bad) ([] : List S_Message))
noncomputable def intarsialaw10_alive : Option Bool :=
 (wire_New true ([] : Bytes)).bind fun x1 =>
 (wire_Feed x1 ([71, 69, 84, 32, 47, 32, 72, 84, 84, 80, 47, 49, 46, 49, 13, 10, 13, 10] : Bytes)).bind fun x2 =>
 (gidx (bif (x2.2.2 == (0 : Int)) then ((x2.2.1.length : Int) == (1 : Int)) else false) x2.2.1 (0 : Int)).bind fun x3 =>
 some (bif (bif (x2.2.2 == (0 : Int)) then ((x2.2.1.length : Int) == (1 : Int)) else false) then ((x3.Start.Method == ([71, 69, 84] : Bytes)) && ((x3.Start.Target == ([47] : Bytes)) && ((x3.Start.Code == (0 : Int)) && ((x3.Start.Reason == ([] : Bytes)) && ((x3.Start.Minor == (1 : Int)) && true))))) else false)
noncomputable def intarsialaw10_WireBack_1 (a0 : (List S_Field)) : Option (List S_Field) :=
 (intarsiaref04_Remove a0 ([99, 111, 110, 116, 101, 110, 116, 45, 108, 101, 110, 103, 116, 104] : Bytes)).bind fun x1 =>
 (intarsiaref04_Remove x1 ([116, 114, 97, 110, 115, 102, 101, 114, 45, 101, 110, 99, 111, 100, 105, 110, 103] : Bytes)).bind fun x2 =>
 some x2
noncomputable def intarsiaref04_Like_b1 (a0 : (List S_Field)) (a1 : (List S_Field)) (s1 : Int) : Option (Int ⊕ Bool) :=
 bif (decide (s1 < (a0.length : Int))) then
  (idx a0 s1).bind fun x2 =>
  (idx a1 s1).bind fun x3 =>
  bif (!((x2.Name == x3.Name) && ((x2.Value == x3.Value) && true))) then
   some (.inr false)
  else
   some (.inl (IntKind.i64.wrap (s1 + (1 : Int))))
 else
  some (.inr true)
noncomputable def intarsiaref04_Like (a0 : (List S_Field)) (a1 : (List S_Field)) : Option Bool :=
 bif ((a0.length : Int) != (a1.length : Int)) then
  some false
 else
  loopO (intarsiaref04_Like_b1 a0 a1) (0 : Int)
noncomputable def intarsialaw10_WireBack (a0 : S_Message) (a1 : Bool) (a2 : Bytes) : Option Bool :=
 (intarsialaw10_few a0).bind fun x1 =>
 (slc a2 0 (imin (a2.length : Int) (500 : Int))).bind fun x2 =>
 (wire_Write x1 a1).bind fun x3 =>
 bif (bif (bif (bif (bif (x3.2 != (0 : Int)) then true else (bif a1 then (x1.Start.Minor == (0 : Int)) else false)) then true else (bif (x1.Start.Code != (0 : Int)) then (decide (x1.Start.Code < (200 : Int))) else false)) then true else (x1.Start.Code == (204 : Int))) then true else (x1.Start.Code == (304 : Int))) then
  intarsialaw10_alive.bind fun x4 =>
  some (bif x4 then (bif (x3.2 == (0 : Int)) then true else (x3.1 == ([] : Bytes))) else false)
 else
  (strings_Index x3.1 ([13, 10, 13, 10] : Bytes)).bind fun x5 =>
  bif (decide ((IntKind.i64.wrap (x5 + (4 : Int))) > (4000 : Int))) then
   intarsialaw10_alive.bind fun x6 =>
   some x6
  else
   (wire_New (x1.Start.Code == (0 : Int)) ([71, 69, 84] : Bytes)).bind fun x7 =>
   (cat x3.1 x2).bind fun x8 =>
   (wire_Feed x7 x8).bind fun x9 =>
   (gcall (!(bif (x9.2.2 != (0 : Int)) then true else ((x9.2.1.length : Int) == (0 : Int)))) intarsialaw10_alive).bind fun x10 =>
   bif (bif (bif (x9.2.2 != (0 : Int)) then true else ((x9.2.1.length : Int) == (0 : Int))) then true else (!x10)) then
    some false
   else
    (idx x9.2.1 (0 : Int)).bind fun x11 =>
    (gidx ((x11.Start.Method == x1.Start.Method) && ((x11.Start.Target == x1.Start.Target) && ((x11.Start.Code == x1.Start.Code) && ((x11.Start.Reason == x1.Start.Reason) && ((x11.Start.Minor == x1.Start.Minor) && true))))) x9.2.1 (0 : Int)).bind fun x12 =>
    (gidx (bif ((x11.Start.Method == x1.Start.Method) && ((x11.Start.Target == x1.Start.Target) && ((x11.Start.Code == x1.Start.Code) && ((x11.Start.Reason == x1.Start.Reason) && ((x11.Start.Minor == x1.Start.Minor) && true))))) then (x12.Body == x1.Body) else false) x9.2.1 (0 : Int)).bind fun x13 =>
    (gcall (bif ((x11.Start.Method == x1.Start.Method) && ((x11.Start.Target == x1.Start.Target) && ((x11.Start.Code == x1.Start.Code) && ((x11.Start.Reason == x1.Start.Reason) && ((x11.Start.Minor == x1.Start.Minor) && true))))) then (x12.Body == x1.Body) else false) (intarsialaw10_WireBack_1 x13.Fields)).bind fun x14 =>
    (gcall (bif ((x11.Start.Method == x1.Start.Method) && ((x11.Start.Target == x1.Start.Target) && ((x11.Start.Code == x1.Start.Code) && ((x11.Start.Reason == x1.Start.Reason) && ((x11.Start.Minor == x1.Start.Minor) && true))))) then (x12.Body == x1.Body) else false) (intarsialaw10_WireBack_1 x1.Fields)).bind fun x15 =>
    (gcall (bif ((x11.Start.Method == x1.Start.Method) && ((x11.Start.Target == x1.Start.Target) && ((x11.Start.Code == x1.Start.Code) && ((x11.Start.Reason == x1.Start.Reason) && ((x11.Start.Minor == x1.Start.Minor) && true))))) then (x12.Body == x1.Body) else false) (intarsiaref04_Like x14 x15)).bind fun x16 =>
    some (bif (bif ((x11.Start.Method == x1.Start.Method) && ((x11.Start.Target == x1.Start.Target) && ((x11.Start.Code == x1.Start.Code) && ((x11.Start.Reason == x1.Start.Reason) && ((x11.Start.Minor == x1.Start.Minor) && true))))) then (x12.Body == x1.Body) else false) then x16 else false)
end Go.Proofs.YtpionnihpibglaaGreatDoor
