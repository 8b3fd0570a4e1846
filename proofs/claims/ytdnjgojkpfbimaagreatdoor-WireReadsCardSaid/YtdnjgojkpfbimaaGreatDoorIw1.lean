/-
  The plain images of the functions, written by a program of mine (gen.py) off the translation.
-/
import Derived.Test.YtdnjgojkpfbimaaGreatDoorGi3
import Derived.Test.YtdnjgojkpfbimaaGreatDoorIh1
import Derived.Test.YtdnjgojkpfbimaaGreatDoorGi1
namespace Go.Proofs.YtdnjgojkpfbimaaGreatDoor
open Go Go.Pm
set_option linter.unusedSimpArgs false
set_option linter.unusedVariables false
structure S_Start where
 Method : Bytes
 Target : Bytes
 Code : Int
 Reason : Bytes
 Minor : Int
instance : Inhabited S_Start := ⟨⟨default, default, default, default, default⟩⟩
def S_Start.cells (x : S_Start) : List AV := [AV.str x.Method, AV.str x.Target, AV.int .i64 x.Code, AV.str x.Reason, AV.int .i64 x.Minor]
def S_Start.av (x : S_Start) : AV := .agg (S_Start.cells x)
structure S_Message where
 Start : S_Start
 Fields : (List S_Field)
 Body : Bytes
instance : Inhabited S_Message := ⟨⟨default, default, default⟩⟩
def S_Message.cells (x : S_Message) : List AV := [AV.str x.Start.Method, AV.str x.Start.Target, AV.int .i64 x.Start.Code, AV.str x.Start.Reason, AV.int .i64 x.Start.Minor, AV.list 2 (x.Fields.map S_Field.av), AV.str x.Body]
def S_Message.av (x : S_Message) : AV := .agg (S_Message.cells x)
structure S_Body where
 Kind : Int
 Size : Int
instance : Inhabited S_Body := ⟨⟨default, default⟩⟩
def S_Body.cells (x : S_Body) : List AV := [AV.int .i64 x.Kind, AV.int .i64 x.Size]
def S_Body.av (x : S_Body) : AV := .agg (S_Body.cells x)
structure S_Chunked where
 Stage : Int
 Line : Bytes
 Left : Int
 Size : Int
instance : Inhabited S_Chunked := ⟨⟨default, default, default, default⟩⟩
def S_Chunked.cells (x : S_Chunked) : List AV := [AV.int .i64 x.Stage, AV.str x.Line, AV.int .i64 x.Left, AV.int .i64 x.Size]
def S_Chunked.av (x : S_Chunked) : AV := .agg (S_Chunked.cells x)
structure S_Reader where
 Asks : Bool
 Method : Bytes
 Buf : Bytes
 In : Bool
 Head : S_Message
 Body : S_Body
 Chunk : S_Chunked
 Bad : Int
instance : Inhabited S_Reader := ⟨⟨default, default, default, default, default, default, default, default⟩⟩
def S_Reader.cells (x : S_Reader) : List AV := [AV.bool x.Asks, AV.str x.Method, AV.str x.Buf, AV.bool x.In, AV.str x.Head.Start.Method, AV.str x.Head.Start.Target, AV.int .i64 x.Head.Start.Code, AV.str x.Head.Start.Reason, AV.int .i64 x.Head.Start.Minor, AV.list 2 (x.Head.Fields.map S_Field.av), AV.str x.Head.Body, AV.int .i64 x.Body.Kind, AV.int .i64 x.Body.Size, AV.int .i64 x.Chunk.Stage, AV.str x.Chunk.Line, AV.int .i64 x.Chunk.Left, AV.int .i64 x.Chunk.Size, AV.int .i64 x.Bad]
def S_Reader.av (x : S_Reader) : AV := .agg (S_Reader.cells x)
structure S_wire_reading where
 Reader : S_Reader
 out : (List S_Message)
instance : Inhabited S_wire_reading := ⟨⟨default, default⟩⟩
def S_wire_reading.cells (x : S_wire_reading) : List AV := [AV.bool x.Reader.Asks, AV.str x.Reader.Method, AV.str x.Reader.Buf, AV.bool x.Reader.In, AV.str x.Reader.Head.Start.Method, AV.str x.Reader.Head.Start.Target, AV.int .i64 x.Reader.Head.Start.Code, AV.str x.Reader.Head.Start.Reason, AV.int .i64 x.Reader.Head.Start.Minor, AV.list 2 (x.Reader.Head.Fields.map S_Field.av), AV.str x.Reader.Head.Body, AV.int .i64 x.Reader.Body.Kind, AV.int .i64 x.Reader.Body.Size, AV.int .i64 x.Reader.Chunk.Stage, AV.str x.Reader.Chunk.Line, AV.int .i64 x.Reader.Chunk.Left, AV.int .i64 x.Reader.Chunk.Size, AV.int .i64 x.Reader.Bad, AV.list 7 (x.out.map S_Message.av)]
def S_wire_reading.av (x : S_wire_reading) : AV := .agg (S_wire_reading.cells x)
structure S_chunk_state where
 Chunked : S_Chunked
 bad : Int
instance : Inhabited S_chunk_state := ⟨⟨default, default⟩⟩
def S_chunk_state.cells (x : S_chunk_state) : List AV := [AV.int .i64 x.Chunked.Stage, AV.str x.Chunked.Line, AV.int .i64 x.Chunked.Left, AV.int .i64 x.Chunked.Size, AV.int .i64 x.bad]
def S_chunk_state.av (x : S_chunk_state) : AV := .agg (S_chunk_state.cells x)
structure S_intarsiaref10_T where
 Out : (List S_Message)
 Left : Bytes
 In : Bool
 Last : S_Message
 Kind : Int
 Bad : Int
instance : Inhabited S_intarsiaref10_T := ⟨⟨default, default, default, default, default, default⟩⟩
def S_intarsiaref10_T.cells (x : S_intarsiaref10_T) : List AV := [AV.list 7 (x.Out.map S_Message.av), AV.str x.Left, AV.bool x.In, AV.str x.Last.Start.Method, AV.str x.Last.Start.Target, AV.int .i64 x.Last.Start.Code, AV.str x.Last.Start.Reason, AV.int .i64 x.Last.Start.Minor, AV.list 2 (x.Last.Fields.map S_Field.av), AV.str x.Last.Body, AV.int .i64 x.Kind, AV.int .i64 x.Bad]
def S_intarsiaref10_T.av (x : S_intarsiaref10_T) : AV := .agg (S_intarsiaref10_T.cells x)
noncomputable def wire_New (a0 : Bool) (a1 : Bytes) : Option S_Reader :=
 some (S_Reader.mk a0 a1 ([] : Bytes) false (S_Message.mk (S_Start.mk ([] : Bytes) ([] : Bytes) (0 : Int) ([] : Bytes) (0 : Int)) ([] : List S_Field) ([] : Bytes)) (S_Body.mk (0 : Int) (0 : Int)) (S_Chunked.mk (0 : Int) ([] : Bytes) (0 : Int) (0 : Int)) (0 : Int))
noncomputable def wire_empty (a0 : S_Message) : Option Bool :=
 some (bif (bif ((a0.Start.Method == ([] : Bytes)) && ((a0.Start.Target == ([] : Bytes)) && ((a0.Start.Code == (0 : Int)) && ((a0.Start.Reason == ([] : Bytes)) && ((a0.Start.Minor == (0 : Int)) && true))))) then ((a0.Fields.length : Int) == (0 : Int)) else false) then (a0.Body == ([] : Bytes)) else false)
noncomputable def wire_bare (a0 : S_Reader) : Option Bool :=
 (gcall (bif (a0.Buf == ([] : Bytes)) then (!a0.In) else false) (wire_empty a0.Head)).bind fun x1 =>
 some (bif (bif (bif (bif (a0.Buf == ([] : Bytes)) then (!a0.In) else false) then x1 else false) then ((a0.Body.Kind == (0 : Int)) && ((a0.Body.Size == (0 : Int)) && true)) else false) then ((a0.Chunk.Stage == (0 : Int)) && ((a0.Chunk.Line == ([] : Bytes)) && ((a0.Chunk.Left == (0 : Int)) && ((a0.Chunk.Size == (0 : Int)) && true)))) else false)
noncomputable def stringslite_HasPrefix (a0 : Bytes) (a1 : Bytes) : Option Bool :=
 (gslc (decide ((a0.length : Int) ≥ (a1.length : Int))) a0 0 (a1.length : Int)).bind fun x1 =>
 some (bif (decide ((a0.length : Int) ≥ (a1.length : Int))) then (x1 == a1) else false)
noncomputable def strings_HasPrefix (a0 : Bytes) (a1 : Bytes) : Option Bool :=
 (stringslite_HasPrefix a0 a1).bind fun x1 =>
 some x1
noncomputable def start_target_1 (a0 : Int) : Option Bool :=
 (gcall (!(bif (decide (a0 <= (32 : Int))) then true else (decide (a0 > (126 : Int))))) (strings_IndexByte ([34, 35, 60, 62, 92, 94, 123, 124, 125, 96] : Bytes) a0)).bind fun x1 =>
 some (bif (bif (decide (a0 <= (32 : Int))) then true else (decide (a0 > (126 : Int)))) then true else (decide (x1 ≥ (0 : Int))))
noncomputable def start_target (a0 : Bytes) : Option Bool :=
 bif (a0 == ([42] : Bytes)) then
  some true
 else
  (strings_HasPrefix a0 ([47] : Bytes)).bind fun x1 =>
  (gcall (!x1) (strings_HasPrefix a0 ([104, 116, 116, 112, 58, 47, 47] : Bytes))).bind fun x2 =>
  (gcall (bif (bif x1 then true else x2) then (decide ((a0.length : Int) <= (500 : Int))) else false) (slices_ContainsFunc__byte_byte a0 (fun x0 => start_target_1 x0))).bind fun x3 =>
  some (bif (bif (bif x1 then true else x2) then (decide ((a0.length : Int) <= (500 : Int))) else false) then (!x3) else false)
noncomputable def start_Right_1 (a0 : Int) : Option Bool :=
 some (bif (bif (decide (a0 < (32 : Int))) then (a0 != (9 : Int)) else false) then true else (a0 == (127 : Int)))
noncomputable def start_Right (a0 : S_Start) : Option Bool :=
 bif (bif (a0.Minor != (0 : Int)) then (a0.Minor != (1 : Int)) else false) then
  some false
 else
  bif (a0.Code == (0 : Int)) then
   (gcall (a0.Reason == ([] : Bytes)) (text_Token a0.Method)).bind fun x1 =>
   (gcall (bif (bif (a0.Reason == ([] : Bytes)) then x1 else false) then (decide ((a0.Method.length : Int) <= (20 : Int))) else false) (start_target a0.Target)).bind fun x2 =>
   some (bif (bif (bif (a0.Reason == ([] : Bytes)) then x1 else false) then (decide ((a0.Method.length : Int) <= (20 : Int))) else false) then x2 else false)
  else
   (gcall (bif (bif (bif (bif (decide (a0.Code ≥ (100 : Int))) then (decide (a0.Code <= (599 : Int))) else false) then (a0.Method == ([] : Bytes)) else false) then (a0.Target == ([] : Bytes)) else false) then (decide ((a0.Reason.length : Int) <= (100 : Int))) else false) (text_Trim a0.Reason)).bind fun x3 =>
   (gcall (bif (bif (bif (bif (bif (decide (a0.Code ≥ (100 : Int))) then (decide (a0.Code <= (599 : Int))) else false) then (a0.Method == ([] : Bytes)) else false) then (a0.Target == ([] : Bytes)) else false) then (decide ((a0.Reason.length : Int) <= (100 : Int))) else false) then (x3 == a0.Reason) else false) (slices_ContainsFunc__byte_byte a0.Reason (fun x0 => start_Right_1 x0))).bind fun x4 =>
   some (bif (bif (bif (bif (bif (bif (decide (a0.Code ≥ (100 : Int))) then (decide (a0.Code <= (599 : Int))) else false) then (a0.Method == ([] : Bytes)) else false) then (a0.Target == ([] : Bytes)) else false) then (decide ((a0.Reason.length : Int) <= (100 : Int))) else false) then (x3 == a0.Reason) else false) then (!x4) else false)
noncomputable def table_named (a0 : Bytes) : Option Bytes :=
 some a0
noncomputable def table_keep_api_Field_b1 (a0 : (List S_Field)) (a1i : S_Field -> Option Bool) (x : ((List S_Field) × Int)) : Option (((List S_Field) × Int) ⊕ (List S_Field)) :=
 match x with
 | (s2, s3) =>
  bif (decide (s3 < (a0.length : Int))) then
   (idx a0 s3).bind fun x4 =>
   (a1i x4).bind fun x5 =>
   bif x5 then
    (app 32 s2 ([x4] : List S_Field)).bind fun x6 =>
    some (.inl (x6, (IntKind.i64.wrap (s3 + (1 : Int)))))
   else
    some (.inl (s2, (IntKind.i64.wrap (s3 + (1 : Int)))))
  else
   some (.inr s2)
noncomputable def table_keep_api_Field (a0 : (List S_Field)) (a1i : S_Field -> Option Bool) : Option (List S_Field) :=
 (loopO (table_keep_api_Field_b1 a0 a1i) (([] : List S_Field), (0 : Int)) : Option (List S_Field)).bind fun j1 =>
 some j1
noncomputable def text_Lower_b1 (a0 : Bytes) (x : (Int × (List UInt8))) : Option ((Int × (List UInt8)) ⊕ (List UInt8)) :=
 match x with
 | (s2, s3) =>
  bif (decide (s2 < ((a0.length : Nat) : Int))) then
   chk (0 <= s2 /\ s2 < (a0.length : Int)) <|
   (idx s3 s2).bind fun x5 =>
   bif (bif (decide ((x5.toNat : Int) ≥ (65 : Int))) then (decide ((x5.toNat : Int) <= (90 : Int))) else false) then
    chk (0 <= s2 /\ s2 < (a0.length : Int)) <|
    (seti s3 s2 (u8 (IntKind.u8.wrap ((IntKind.u8.wrap ((x5.toNat : Int) + (97 : Int))) - (65 : Int))))).bind fun x7 =>
    some (.inl ((IntKind.i64.wrap (s2 + (1 : Int))), x7))
   else
    some (.inl ((IntKind.i64.wrap (s2 + (1 : Int))), s3))
  else
   some (.inr s3)
noncomputable def text_Lower (a0 : Bytes) : Option Bytes :=
 (loopO (text_Lower_b1 a0) ((0 : Int), a0) : Option (List UInt8)).bind fun j1 =>
 chk (a0.length <= j1.length) <|
 some (j1.take a0.length)
noncomputable def text_Same (a0 : Bytes) (a1 : Bytes) : Option Bool :=
 (text_Lower a0).bind fun x1 =>
 (text_Lower a1).bind fun x2 =>
 some (x1 == x2)
noncomputable def table_named_1 (a0 : S_Field) (c0 : Bytes) : Option Bool :=
 (text_Same a0.Name c0).bind fun x1 =>
 some x1
noncomputable def table_All_b1 (x3 : (List S_Field)) (x : ((List Bytes) × Int)) : Option (((List Bytes) × Int) ⊕ (List Bytes)) :=
 match x with
 | (s4, s5) =>
  bif (decide (s5 < (x3.length : Int))) then
   (idx x3 s5).bind fun x6 =>
   (app 16 s4 ([x6.Value] : List Bytes)).bind fun x7 =>
   some (.inl (x7, (IntKind.i64.wrap (s5 + (1 : Int)))))
  else
   some (.inr s4)
noncomputable def table_All (a0 : (List S_Field)) (a1 : Bytes) : Option (List Bytes) :=
 ((table_named a1).bind fun x2 =>
 (table_keep_api_Field a0 (fun x0 => table_named_1 x0 x2)).bind fun x3 =>
 loopO (table_All_b1 x3) (([] : List Bytes), (0 : Int)) : Option (List Bytes)).bind fun j1 =>
 some j1
noncomputable def table_Joined (a0 : (List S_Field)) (a1 : Bytes) : Option (Bytes × Bool) :=
 (table_All a0 a1).bind fun x1 =>
 (strings_Join x1 ([44, 32] : Bytes)).bind fun x2 =>
 some (x2, (decide ((x1.length : Int) > (0 : Int))))
noncomputable def number_read_uint64_b1 (a0 : Bytes) (a1 : Int) (a2i : Int -> Option Int) (x : (Int × Bool × Int)) : Option ((Int × Bool × Int) ⊕ (Int × Int)) :=
 match x with
 | (s1, s2, s3) =>
  bif (decide (s3 < (a0.length : Int))) then
   (idx a0 s3).bind fun x4 =>
   (a2i (x4.toNat : Int)).bind fun x5 =>
   bif (decide (x5 ≥ a1)) then
    some (.inr ((0 : Int), (10 : Int)))
   else
    bif (decide ((IntKind.u64.wrap ((IntKind.u64.wrap (s1 * a1)) + x5)) > (1099511627776 : Int))) then
     some (.inl ((0 : Int), true, (IntKind.i64.wrap (s3 + (1 : Int)))))
    else
     some (.inl ((IntKind.u64.wrap ((IntKind.u64.wrap (s1 * a1)) + x5)), s2, (IntKind.i64.wrap (s3 + (1 : Int)))))
  else
   bif s2 then
    some (.inr ((0 : Int), (2 : Int)))
   else
    some (.inr (s1, (0 : Int)))
noncomputable def number_read_uint64 (a0 : Bytes) (a1 : Int) (a2i : Int -> Option Int) : Option (Int × Int) :=
 bif (a0 == ([] : Bytes)) then
  some ((0 : Int), (10 : Int))
 else
  loopO (number_read_uint64_b1 a0 a1 a2i) ((IntKind.u64.wrap (0 : Int)), false, (0 : Int))
noncomputable def number_ReadDec_1 (a0 : Int) : Option Int :=
 some (IntKind.u64.wrap (IntKind.u8.wrap (a0 - (48 : Int))))
noncomputable def number_ReadDec (a0 : Bytes) : Option (Int × Int) :=
 (number_read_uint64 a0 (10 : Int) (fun x0 => number_ReadDec_1 x0)).bind fun x1 =>
 some (x1.1, x1.2)
noncomputable def frame_say_b1 (x1 : (List Bytes)) (x : (Bool × Int × S_Body)) : Option ((Bool × Int × S_Body) ⊕ (S_Body × Int)) :=
 match x with
 | (s4, s5, s6) =>
  bif (decide (s5 < (x1.length : Int))) then
   (idx x1 s5).bind fun x7 =>
   (number_ReadDec x7).bind fun x8 =>
   bif (x8.2 == (2 : Int)) then
    bif (bif (x8.2 == (10 : Int)) then true else (bif (decide (s5 > (0 : Int))) then (!(((1 : Int) == s6.Kind) && (((-1 : Int) == s6.Size) && true))) else false)) then
     some (.inr ((S_Body.mk (0 : Int) (0 : Int)), (32 : Int)))
    else
     some (.inl ((bif (decide ((-1 : Int) < (0 : Int))) then true else (decide ((-1 : Int) > (20000 : Int)))), (IntKind.i64.wrap (s5 + (1 : Int))), (S_Body.mk (1 : Int) (-1 : Int))))
   else
    bif (bif (x8.2 == (10 : Int)) then true else (bif (decide (s5 > (0 : Int))) then (!(((1 : Int) == s6.Kind) && (((IntKind.i64.wrap x8.1) == s6.Size) && true))) else false)) then
     some (.inr ((S_Body.mk (0 : Int) (0 : Int)), (32 : Int)))
    else
     some (.inl ((bif (decide ((IntKind.i64.wrap x8.1) < (0 : Int))) then true else (decide ((IntKind.i64.wrap x8.1) > (20000 : Int)))), (IntKind.i64.wrap (s5 + (1 : Int))), (S_Body.mk (1 : Int) (IntKind.i64.wrap x8.1))))
  else
   bif s4 then
    some (.inr ((S_Body.mk (0 : Int) (0 : Int)), (2 : Int)))
   else
    some (.inr (s6, (0 : Int)))
noncomputable def frame_say (a0 : Int) (a1 : (List S_Field)) (a2 : S_Body) : Option (S_Body × Int) :=
 (table_All a1 ([67, 111, 110, 116, 101, 110, 116, 45, 76, 101, 110, 103, 116, 104] : Bytes)).bind fun x1 =>
 (table_Joined a1 ([84, 114, 97, 110, 115, 102, 101, 114, 45, 69, 110, 99, 111, 100, 105, 110, 103] : Bytes)).bind fun x2 =>
 bif x2.2 then
  (gcall (!(bif (decide ((x1.length : Int) > (0 : Int))) then true else (a0 == (0 : Int)))) (text_Same x2.1 ([99, 104, 117, 110, 107, 101, 100] : Bytes))).bind fun x3 =>
  bif (bif (bif (decide ((x1.length : Int) > (0 : Int))) then true else (a0 == (0 : Int))) then true else (!x3)) then
   some ((S_Body.mk (0 : Int) (0 : Int)), (32 : Int))
  else
   some ((S_Body.mk (2 : Int) (0 : Int)), (0 : Int))
 else
  loopO (frame_say_b1 x1) (false, (0 : Int), a2)
noncomputable def frame_Request (a0 : S_Start) (a1 : (List S_Field)) : Option (S_Body × Int) :=
 (start_Right a0).bind fun x1 =>
 (gcall (!(bif (!x1) then true else (a0.Code != (0 : Int)))) (table_Right a1)).bind fun x2 =>
 bif (bif (bif (!x1) then true else (a0.Code != (0 : Int))) then true else (!x2)) then
  some ((S_Body.mk (0 : Int) (0 : Int)), (1 : Int))
 else
  (frame_say a0.Minor a1 (S_Body.mk (0 : Int) (0 : Int))).bind fun x3 =>
  some (x3.1, x3.2)
noncomputable def frame_Answer (a0 : S_Start) (a1 : (List S_Field)) (a2 : Bytes) : Option (S_Body × Int) :=
 (start_Right a0).bind fun x1 =>
 (gcall (!(bif (!x1) then true else (a0.Code == (0 : Int)))) (table_Right a1)).bind fun x2 =>
 bif (bif (bif (!x1) then true else (a0.Code == (0 : Int))) then true else (!x2)) then
  some ((S_Body.mk (0 : Int) (0 : Int)), (1 : Int))
 else
  bif (bif (bif (bif (decide (a0.Code < (200 : Int))) then true else (a0.Code == (204 : Int))) then true else (a0.Code == (304 : Int))) then true else (a2 == ([72, 69, 65, 68] : Bytes))) then
   some ((S_Body.mk (0 : Int) (0 : Int)), (0 : Int))
  else
   (frame_say a0.Minor a1 (S_Body.mk (3 : Int) (0 : Int))).bind fun x3 =>
   some (x3.1, x3.2)
noncomputable def wire_body (a0 : S_Reader) : Option (S_Body × Int) :=
 bif a0.Asks then
  (frame_Request a0.Head.Start a0.Head.Fields).bind fun x1 =>
  some (x1.1, x1.2)
 else
  (frame_Answer a0.Head.Start a0.Head.Fields a0.Method).bind fun x2 =>
  some (x2.1, x2.2)
noncomputable def strings_Index (a0 : Bytes) (a1 : Bytes) : Option Int :=
 (stringslite_Index a0 a1).bind fun x1 =>
 some x1
noncomputable def strings_Contains (a0 : Bytes) (a1 : Bytes) : Option Bool :=
 (strings_Index a0 a1).bind fun x1 =>
 some (decide (x1 ≥ (0 : Int)))
noncomputable def chunk_Right (a0 : S_Chunked) : Option Bool :=
 (gcall (!(bif (bif (bif (bif (decide (a0.Stage < (0 : Int))) then true else (decide (a0.Stage > (4 : Int)))) then true else (decide (a0.Size < (0 : Int)))) then true else (decide (a0.Size > (20000 : Int)))) then true else (decide ((a0.Line.length : Int) > (200 : Int))))) (strings_Contains a0.Line ([10] : Bytes))).bind fun x1 =>
 bif (bif (bif (bif (bif (bif (decide (a0.Stage < (0 : Int))) then true else (decide (a0.Stage > (4 : Int)))) then true else (decide (a0.Size < (0 : Int)))) then true else (decide (a0.Size > (20000 : Int)))) then true else (decide ((a0.Line.length : Int) > (200 : Int)))) then true else x1) then
  some false
 else
  bif (a0.Stage == (1 : Int)) then
   some (bif (bif (decide (a0.Left ≥ (1 : Int))) then (decide (a0.Left <= (IntKind.i64.wrap ((20000 : Int) - a0.Size)))) else false) then (a0.Line == ([] : Bytes)) else false)
  else
   some (bif (a0.Left == (0 : Int)) then (bif (a0.Stage != (4 : Int)) then true else (a0.Line == ([] : Bytes))) else false)
noncomputable def wire_Right (a0 : S_Reader) : Option Bool :=
 bif (a0.Bad != (0 : Int)) then
  (wire_bare a0).bind fun x1 =>
  some x1
 else
  bif (!a0.In) then
   (wire_bare (S_Reader.mk a0.Asks a0.Method ([] : Bytes) a0.In a0.Head a0.Body a0.Chunk a0.Bad)).bind fun x2 =>
   some (bif x2 then (decide ((a0.Buf.length : Int) <= (4000 : Int))) else false)
  else
   (wire_body a0).bind fun x3 =>
   bif (bif (bif (bif (x3.2 != (0 : Int)) then true else (!((x3.1.Kind == a0.Body.Kind) && ((x3.1.Size == a0.Body.Size) && true)))) then true else (!(a0.Buf == ([] : Bytes)))) then true else (bif (x3.1.Kind != (2 : Int)) then (!((a0.Chunk.Stage == (0 : Int)) && ((a0.Chunk.Line == ([] : Bytes)) && ((a0.Chunk.Left == (0 : Int)) && ((a0.Chunk.Size == (0 : Int)) && true))))) else false)) then
    some false
   else
    bif (x3.1.Kind == (1 : Int)) then
     some (decide ((a0.Head.Body.length : Int) < x3.1.Size))
    else
     bif (x3.1.Kind == (2 : Int)) then
      (chunk_Right a0.Chunk).bind fun x4 =>
      some (bif (bif x4 then (a0.Chunk.Stage != (4 : Int)) else false) then (a0.Chunk.Size == (a0.Head.Body.length : Int)) else false)
     else
      bif (x3.1.Kind == (3 : Int)) then
       some (decide ((a0.Head.Body.length : Int) <= (20000 : Int)))
      else
       some false
noncomputable def wire_reading_whole (o0 : S_wire_reading) : Option (Bool × S_wire_reading) :=
 (app 104 o0.out ([o0.Reader.Head] : List S_Message)).bind fun x1 =>
 some (true, (S_wire_reading.mk (S_Reader.mk o0.Reader.Asks o0.Reader.Method o0.Reader.Buf false (S_Message.mk (S_Start.mk ([] : Bytes) ([] : Bytes) (0 : Int) ([] : Bytes) (0 : Int)) ([] : List S_Field) ([] : Bytes)) (S_Body.mk (0 : Int) (0 : Int)) (S_Chunked.mk (0 : Int) ([] : Bytes) (0 : Int) (0 : Int)) o0.Reader.Bad) x1))
noncomputable def chunk_state_end (o0 : S_chunk_state) (a1 : Bytes) : Option (Unit × S_chunk_state) :=
 bif (!(a1 == ([] : Bytes))) then
  some ((), (S_chunk_state.mk (S_Chunked.mk (0 : Int) o0.Chunked.Line o0.Chunked.Left o0.Chunked.Size) (33 : Int)))
 else
  some ((), (S_chunk_state.mk (S_Chunked.mk (0 : Int) o0.Chunked.Line o0.Chunked.Left o0.Chunked.Size) o0.bad))
noncomputable def chunk_state_tail (o0 : S_chunk_state) (a1 : Bytes) : Option (Unit × S_chunk_state) :=
 bif (a1 == ([] : Bytes)) then
  some ((), (S_chunk_state.mk (S_Chunked.mk (4 : Int) o0.Chunked.Line o0.Chunked.Left o0.Chunked.Size) o0.bad))
 else
  some ((), o0)
noncomputable def number_ReadHex_1 (a0 : Int) : Option Int :=
 bif (bif (decide (a0 ≥ (48 : Int))) then (decide (a0 <= (57 : Int))) else false) then
  some (IntKind.u64.wrap (IntKind.u8.wrap (a0 - (48 : Int))))
 else
  bif (bif (decide (a0 ≥ (65 : Int))) then (decide (a0 <= (70 : Int))) else false) then
   some (IntKind.u64.wrap ((IntKind.u64.wrap (IntKind.u8.wrap (a0 - (65 : Int)))) + (10 : Int)))
  else
   bif (bif (decide (a0 ≥ (97 : Int))) then (decide (a0 <= (102 : Int))) else false) then
    some (IntKind.u64.wrap ((IntKind.u64.wrap (IntKind.u8.wrap (a0 - (97 : Int)))) + (10 : Int)))
   else
    some (16 : Int)
noncomputable def number_ReadHex (a0 : Bytes) : Option (Int × Int) :=
 (number_read_uint64 a0 (16 : Int) (fun x0 => number_ReadHex_1 x0)).bind fun x1 =>
 some (x1.1, x1.2)
noncomputable def chunk_state_size (o0 : S_chunk_state) (a1 : Bytes) : Option (Unit × S_chunk_state) :=
 (strings_Cut a1 ([59] : Bytes)).bind fun x1 =>
 (text_Trim x1.1).bind fun x2 =>
 (number_ReadHex x2).bind fun x3 =>
 bif (x3.2 == (10 : Int)) then
  some ((), (S_chunk_state.mk o0.Chunked (33 : Int)))
 else
  bif (bif (x3.2 != (0 : Int)) then true else (decide (x3.1 > (IntKind.u64.wrap (IntKind.i64.wrap ((20000 : Int) - o0.Chunked.Size)))))) then
   some ((), (S_chunk_state.mk o0.Chunked (2 : Int)))
  else
   bif (x3.1 == (0 : Int)) then
    some ((), (S_chunk_state.mk (S_Chunked.mk (3 : Int) o0.Chunked.Line o0.Chunked.Left o0.Chunked.Size) o0.bad))
   else
    some ((), (S_chunk_state.mk (S_Chunked.mk (1 : Int) o0.Chunked.Line (IntKind.i64.wrap x3.1) o0.Chunked.Size) o0.bad))
noncomputable def chunk_state_line (o0 : S_chunk_state) (a1 : Bytes) : Option (Int × S_chunk_state) :=
 bif (o0.Chunked.Stage == (2 : Int)) then
  (strings_IndexByte a1 (10 : Int)).bind fun x1 =>
  bif (decide (x1 ≥ (0 : Int))) then
   (slc a1 0 x1).bind fun x2 =>
   bif (decide ((IntKind.i64.wrap ((o0.Chunked.Line.length : Int) + (x2.length : Int))) > (200 : Int))) then
    some ((0 : Int), (S_chunk_state.mk o0.Chunked (33 : Int)))
   else
    (cat o0.Chunked.Line x2).bind fun x3 =>
    bif (decide (x1 < (0 : Int))) then
     some ((a1.length : Int), (S_chunk_state.mk (S_Chunked.mk o0.Chunked.Stage x3 o0.Chunked.Left o0.Chunked.Size) o0.bad))
    else
     (strings_TrimSuffix x3 ([13] : Bytes)).bind fun x4 =>
     (chunk_state_end (S_chunk_state.mk (S_Chunked.mk o0.Chunked.Stage ([] : Bytes) o0.Chunked.Left o0.Chunked.Size) o0.bad) x4).bind fun x5 =>
     some ((IntKind.i64.wrap (x1 + (1 : Int))), x5.2)
  else
   bif (decide ((IntKind.i64.wrap ((o0.Chunked.Line.length : Int) + (a1.length : Int))) > (200 : Int))) then
    some ((0 : Int), (S_chunk_state.mk o0.Chunked (33 : Int)))
   else
    (cat o0.Chunked.Line a1).bind fun x6 =>
    bif (decide (x1 < (0 : Int))) then
     some ((a1.length : Int), (S_chunk_state.mk (S_Chunked.mk o0.Chunked.Stage x6 o0.Chunked.Left o0.Chunked.Size) o0.bad))
    else
     (strings_TrimSuffix x6 ([13] : Bytes)).bind fun x7 =>
     (chunk_state_end (S_chunk_state.mk (S_Chunked.mk o0.Chunked.Stage ([] : Bytes) o0.Chunked.Left o0.Chunked.Size) o0.bad) x7).bind fun x8 =>
     some ((IntKind.i64.wrap (x1 + (1 : Int))), x8.2)
 else
  bif (o0.Chunked.Stage == (3 : Int)) then
   (strings_IndexByte a1 (10 : Int)).bind fun x9 =>
   bif (decide (x9 ≥ (0 : Int))) then
    (slc a1 0 x9).bind fun x10 =>
    bif (decide ((IntKind.i64.wrap ((o0.Chunked.Line.length : Int) + (x10.length : Int))) > (200 : Int))) then
     some ((0 : Int), (S_chunk_state.mk o0.Chunked (33 : Int)))
    else
     (cat o0.Chunked.Line x10).bind fun x11 =>
     bif (decide (x9 < (0 : Int))) then
      some ((a1.length : Int), (S_chunk_state.mk (S_Chunked.mk o0.Chunked.Stage x11 o0.Chunked.Left o0.Chunked.Size) o0.bad))
     else
      (strings_TrimSuffix x11 ([13] : Bytes)).bind fun x12 =>
      (chunk_state_tail (S_chunk_state.mk (S_Chunked.mk o0.Chunked.Stage ([] : Bytes) o0.Chunked.Left o0.Chunked.Size) o0.bad) x12).bind fun x13 =>
      some ((IntKind.i64.wrap (x9 + (1 : Int))), x13.2)
   else
    bif (decide ((IntKind.i64.wrap ((o0.Chunked.Line.length : Int) + (a1.length : Int))) > (200 : Int))) then
     some ((0 : Int), (S_chunk_state.mk o0.Chunked (33 : Int)))
    else
     (cat o0.Chunked.Line a1).bind fun x14 =>
     bif (decide (x9 < (0 : Int))) then
      some ((a1.length : Int), (S_chunk_state.mk (S_Chunked.mk o0.Chunked.Stage x14 o0.Chunked.Left o0.Chunked.Size) o0.bad))
     else
      (strings_TrimSuffix x14 ([13] : Bytes)).bind fun x15 =>
      (chunk_state_tail (S_chunk_state.mk (S_Chunked.mk o0.Chunked.Stage ([] : Bytes) o0.Chunked.Left o0.Chunked.Size) o0.bad) x15).bind fun x16 =>
      some ((IntKind.i64.wrap (x9 + (1 : Int))), x16.2)
  else
   (strings_IndexByte a1 (10 : Int)).bind fun x17 =>
   bif (decide (x17 ≥ (0 : Int))) then
    (slc a1 0 x17).bind fun x18 =>
    bif (decide ((IntKind.i64.wrap ((o0.Chunked.Line.length : Int) + (x18.length : Int))) > (200 : Int))) then
     some ((0 : Int), (S_chunk_state.mk o0.Chunked (33 : Int)))
    else
     (cat o0.Chunked.Line x18).bind fun x19 =>
     bif (decide (x17 < (0 : Int))) then
      some ((a1.length : Int), (S_chunk_state.mk (S_Chunked.mk o0.Chunked.Stage x19 o0.Chunked.Left o0.Chunked.Size) o0.bad))
     else
      (strings_TrimSuffix x19 ([13] : Bytes)).bind fun x20 =>
      (chunk_state_size (S_chunk_state.mk (S_Chunked.mk o0.Chunked.Stage ([] : Bytes) o0.Chunked.Left o0.Chunked.Size) o0.bad) x20).bind fun x21 =>
      some ((IntKind.i64.wrap (x17 + (1 : Int))), x21.2)
   else
    bif (decide ((IntKind.i64.wrap ((o0.Chunked.Line.length : Int) + (a1.length : Int))) > (200 : Int))) then
     some ((0 : Int), (S_chunk_state.mk o0.Chunked (33 : Int)))
    else
     (cat o0.Chunked.Line a1).bind fun x22 =>
     bif (decide (x17 < (0 : Int))) then
      some ((a1.length : Int), (S_chunk_state.mk (S_Chunked.mk o0.Chunked.Stage x22 o0.Chunked.Left o0.Chunked.Size) o0.bad))
     else
      (strings_TrimSuffix x22 ([13] : Bytes)).bind fun x23 =>
      (chunk_state_size (S_chunk_state.mk (S_Chunked.mk o0.Chunked.Stage ([] : Bytes) o0.Chunked.Left o0.Chunked.Size) o0.bad) x23).bind fun x24 =>
      some ((IntKind.i64.wrap (x17 + (1 : Int))), x24.2)
noncomputable def chunk_Feed_b1 (a1 : Bytes) (x : (Int × S_chunk_state × Bytes)) : Option ((Int × S_chunk_state × Bytes) ⊕ (S_Chunked × Bytes × Int × Int)) :=
 match x with
 | (s2, s3, s4) =>
  bif (bif (decide (s2 < (a1.length : Int))) then (s3.Chunked.Stage != (4 : Int)) else false) then
   bif (s3.Chunked.Stage != (1 : Int)) then
    (slc a1 s2 (a1.length : Int)).bind fun x5 =>
    (chunk_state_line s3 x5).bind fun x6 =>
    bif (x6.2.bad != (0 : Int)) then
     some (.inr ((S_Chunked.mk (0 : Int) ([] : Bytes) (0 : Int) (0 : Int)), ([] : Bytes), (0 : Int), x6.2.bad))
    else
     some (.inl ((IntKind.i64.wrap (s2 + x6.1)), x6.2, s4))
   else
    (slc a1 s2 (IntKind.i64.wrap (s2 + (imin s3.Chunked.Left (IntKind.i64.wrap ((a1.length : Int) - s2)))))).bind fun x7 =>
    (bcat s4 x7).bind fun x8 =>
    bif ((IntKind.i64.wrap (s3.Chunked.Left - (imin s3.Chunked.Left (IntKind.i64.wrap ((a1.length : Int) - s2))))) == (0 : Int)) then
     some (.inl ((IntKind.i64.wrap (s2 + (imin s3.Chunked.Left (IntKind.i64.wrap ((a1.length : Int) - s2))))), (S_chunk_state.mk (S_Chunked.mk (2 : Int) s3.Chunked.Line (IntKind.i64.wrap (s3.Chunked.Left - (imin s3.Chunked.Left (IntKind.i64.wrap ((a1.length : Int) - s2))))) (IntKind.i64.wrap (s3.Chunked.Size + (imin s3.Chunked.Left (IntKind.i64.wrap ((a1.length : Int) - s2)))))) s3.bad), (s4 ++ x7)))
    else
     some (.inl ((IntKind.i64.wrap (s2 + (imin s3.Chunked.Left (IntKind.i64.wrap ((a1.length : Int) - s2))))), (S_chunk_state.mk (S_Chunked.mk s3.Chunked.Stage s3.Chunked.Line (IntKind.i64.wrap (s3.Chunked.Left - (imin s3.Chunked.Left (IntKind.i64.wrap ((a1.length : Int) - s2))))) (IntKind.i64.wrap (s3.Chunked.Size + (imin s3.Chunked.Left (IntKind.i64.wrap ((a1.length : Int) - s2)))))) s3.bad), (s4 ++ x7)))
  else
   (bcat s4 []).bind fun x9 =>
   some (.inr (s3.Chunked, s4, s2, (0 : Int)))
noncomputable def chunk_Feed (a0 : S_Chunked) (a1 : Bytes) : Option (S_Chunked × Bytes × Int × Int) :=
 (chunk_Right a0).bind fun x1 =>
 bif (!x1) then
  some ((S_Chunked.mk (0 : Int) ([] : Bytes) (0 : Int) (0 : Int)), ([] : Bytes), (0 : Int), (1 : Int))
 else
  loopO (chunk_Feed_b1 a1) ((0 : Int), (S_chunk_state.mk a0 (0 : Int)), ([] : Bytes))
noncomputable def wire_reading_fail (o0 : S_wire_reading) (a1 : Int) : Option (Bool × S_wire_reading) :=
 some (false, (S_wire_reading.mk (S_Reader.mk o0.Reader.Asks o0.Reader.Method ([] : Bytes) false (S_Message.mk (S_Start.mk ([] : Bytes) ([] : Bytes) (0 : Int) ([] : Bytes) (0 : Int)) ([] : List S_Field) ([] : Bytes)) (S_Body.mk (0 : Int) (0 : Int)) (S_Chunked.mk (0 : Int) ([] : Bytes) (0 : Int) (0 : Int)) a1) o0.out))
noncomputable def wire_reading_more (o0 : S_wire_reading) : Option (Bool × S_wire_reading) :=
 bif (o0.Reader.Body.Kind == (0 : Int)) then
  (wire_reading_whole o0).bind fun x1 =>
  some (x1.1, x1.2)
 else
  bif (o0.Reader.Body.Kind == (1 : Int)) then
   (slc o0.Reader.Buf 0 (imin (o0.Reader.Buf.length : Int) (IntKind.i64.wrap (o0.Reader.Body.Size - (o0.Reader.Head.Body.length : Int))))).bind fun x2 =>
   (cat o0.Reader.Head.Body x2).bind fun x3 =>
   (slc o0.Reader.Buf (imin (o0.Reader.Buf.length : Int) (IntKind.i64.wrap (o0.Reader.Body.Size - (o0.Reader.Head.Body.length : Int)))) (o0.Reader.Buf.length : Int)).bind fun x4 =>
   bif ((x3.length : Int) == o0.Reader.Body.Size) then
    (wire_reading_whole (S_wire_reading.mk (S_Reader.mk o0.Reader.Asks o0.Reader.Method x4 o0.Reader.In (S_Message.mk o0.Reader.Head.Start o0.Reader.Head.Fields x3) o0.Reader.Body o0.Reader.Chunk o0.Reader.Bad) o0.out)).bind fun x5 =>
    some ((bif ((x3.length : Int) == o0.Reader.Body.Size) then x5.1 else false), x5.2)
   else
    some (false, (S_wire_reading.mk (S_Reader.mk o0.Reader.Asks o0.Reader.Method x4 o0.Reader.In (S_Message.mk o0.Reader.Head.Start o0.Reader.Head.Fields x3) o0.Reader.Body o0.Reader.Chunk o0.Reader.Bad) o0.out))
  else
   bif (o0.Reader.Body.Kind == (2 : Int)) then
    (chunk_Feed o0.Reader.Chunk o0.Reader.Buf).bind fun x6 =>
    bif (x6.2.2.2 != (0 : Int)) then
     (wire_reading_fail o0 x6.2.2.2).bind fun x7 =>
     some (x7.1, x7.2)
    else
     (cat o0.Reader.Head.Body x6.2.1).bind fun x8 =>
     (slc o0.Reader.Buf x6.2.2.1 (o0.Reader.Buf.length : Int)).bind fun x9 =>
     bif (x6.1.Stage == (4 : Int)) then
      (wire_reading_whole (S_wire_reading.mk (S_Reader.mk o0.Reader.Asks o0.Reader.Method x9 o0.Reader.In (S_Message.mk o0.Reader.Head.Start o0.Reader.Head.Fields x8) o0.Reader.Body x6.1 o0.Reader.Bad) o0.out)).bind fun x10 =>
      some ((bif (x6.1.Stage == (4 : Int)) then x10.1 else false), x10.2)
     else
      some (false, (S_wire_reading.mk (S_Reader.mk o0.Reader.Asks o0.Reader.Method x9 o0.Reader.In (S_Message.mk o0.Reader.Head.Start o0.Reader.Head.Fields x8) o0.Reader.Body x6.1 o0.Reader.Bad) o0.out))
   else
    (cat o0.Reader.Head.Body o0.Reader.Buf).bind fun x11 =>
    bif (decide ((x11.length : Int) > (20000 : Int))) then
     (wire_reading_fail (S_wire_reading.mk (S_Reader.mk o0.Reader.Asks o0.Reader.Method o0.Reader.Buf o0.Reader.In (S_Message.mk o0.Reader.Head.Start o0.Reader.Head.Fields x11) o0.Reader.Body o0.Reader.Chunk o0.Reader.Bad) o0.out) (2 : Int)).bind fun x12 =>
     some (x12.1, x12.2)
    else
     some (false, (S_wire_reading.mk (S_Reader.mk o0.Reader.Asks o0.Reader.Method ([] : Bytes) o0.Reader.In (S_Message.mk o0.Reader.Head.Start o0.Reader.Head.Fields x11) o0.Reader.Body o0.Reader.Chunk o0.Reader.Bad) o0.out))
noncomputable def stringslite_TrimPrefix (a0 : Bytes) (a1 : Bytes) : Option Bytes :=
 (stringslite_HasPrefix a0 a1).bind fun x1 =>
 bif x1 then
  (slc a0 (a1.length : Int) (a0.length : Int)).bind fun x2 =>
  some x2
 else
  some a0
noncomputable def strings_TrimPrefix (a0 : Bytes) (a1 : Bytes) : Option Bytes :=
 (stringslite_TrimPrefix a0 a1).bind fun x1 =>
 some x1
noncomputable def start_minor (a0 : Bytes) : Option Int :=
 bif (a0 == ([72, 84, 84, 80, 47, 49, 46, 48] : Bytes)) then
  some (0 : Int)
 else
  bif (a0 == ([72, 84, 84, 80, 47, 49, 46, 49] : Bytes)) then
   some (1 : Int)
  else
   some (2 : Int)
noncomputable def start_Parse (a0 : Bytes) : Option (S_Start × Int) :=
 (strings_Split a0 ([32] : Bytes)).bind fun x1 =>
 bif ((x1.length : Int) != (3 : Int)) then
  some ((S_Start.mk ([] : Bytes) ([] : Bytes) (0 : Int) ([] : Bytes) (0 : Int)), (30 : Int))
 else
  (idx x1 (0 : Int)).bind fun x2 =>
  (idx x1 (1 : Int)).bind fun x3 =>
  (idx x1 (2 : Int)).bind fun x4 =>
  (start_minor x4).bind fun x5 =>
  (start_Right (S_Start.mk x2 x3 (0 : Int) ([] : Bytes) x5)).bind fun x6 =>
  bif (!x6) then
   some ((S_Start.mk ([] : Bytes) ([] : Bytes) (0 : Int) ([] : Bytes) (0 : Int)), (30 : Int))
  else
   some ((S_Start.mk x2 x3 (0 : Int) ([] : Bytes) x5), (0 : Int))
noncomputable def start_Status (a0 : Bytes) : Option (S_Start × Int) :=
 (strings_SplitN a0 ([32] : Bytes) (3 : Int)).bind fun x1 =>
 (gidx (!(decide ((x1.length : Int) < (2 : Int)))) x1 (1 : Int)).bind fun x2 =>
 bif (bif (decide ((x1.length : Int) < (2 : Int))) then true else ((x2.length : Int) != (3 : Int))) then
  some ((S_Start.mk ([] : Bytes) ([] : Bytes) (0 : Int) ([] : Bytes) (0 : Int)), (30 : Int))
 else
  (idx x1 (1 : Int)).bind fun x3 =>
  (number_ReadDec x3).bind fun x4 =>
  (idx x1 (0 : Int)).bind fun x5 =>
  (start_minor x5).bind fun x6 =>
  bif ((x1.length : Int) == (3 : Int)) then
   (idx x1 (2 : Int)).bind fun x7 =>
   (gcall (!(bif (x4.2 != (0 : Int)) then true else (x4.1 == (0 : Int)))) (start_Right (S_Start.mk ([] : Bytes) ([] : Bytes) (IntKind.i64.wrap x4.1) x7 x6))).bind fun x8 =>
   bif (bif (bif (x4.2 != (0 : Int)) then true else (x4.1 == (0 : Int))) then true else (!x8)) then
    some ((S_Start.mk ([] : Bytes) ([] : Bytes) (0 : Int) ([] : Bytes) (0 : Int)), (30 : Int))
   else
    some ((S_Start.mk ([] : Bytes) ([] : Bytes) (IntKind.i64.wrap x4.1) x7 x6), (0 : Int))
  else
   (gcall (!(bif (x4.2 != (0 : Int)) then true else (x4.1 == (0 : Int)))) (start_Right (S_Start.mk ([] : Bytes) ([] : Bytes) (IntKind.i64.wrap x4.1) ([] : Bytes) x6))).bind fun x9 =>
   bif (bif (bif (x4.2 != (0 : Int)) then true else (x4.1 == (0 : Int))) then true else (!x9)) then
    some ((S_Start.mk ([] : Bytes) ([] : Bytes) (0 : Int) ([] : Bytes) (0 : Int)), (30 : Int))
   else
    some ((S_Start.mk ([] : Bytes) ([] : Bytes) (IntKind.i64.wrap x4.1) ([] : Bytes) x6), (0 : Int))
noncomputable def wire_reading_begin_b1 (s2 : S_wire_reading) : Option (S_wire_reading ⊕ S_wire_reading) :=
 (gcall s2.Reader.Asks (strings_HasPrefix s2.Reader.Buf ([10] : Bytes))).bind fun x3 =>
 (gcall (s2.Reader.Asks && (!x3)) (strings_HasPrefix s2.Reader.Buf ([13, 10] : Bytes))).bind fun x4 =>
 bif (bif s2.Reader.Asks then (bif x3 then true else x4) else false) then
  (strings_TrimPrefix s2.Reader.Buf ([13] : Bytes)).bind fun x5 =>
  (strings_TrimPrefix x5 ([10] : Bytes)).bind fun x6 =>
  some (.inl (S_wire_reading.mk (S_Reader.mk s2.Reader.Asks s2.Reader.Method x6 s2.Reader.In s2.Reader.Head s2.Reader.Body s2.Reader.Chunk s2.Reader.Bad) s2.out))
 else
  some (.inr s2)
noncomputable def wire_reading_begin (o0 : S_wire_reading) : Option (Bool × S_wire_reading) :=
 (loopO wire_reading_begin_b1 o0 : Option S_wire_reading).bind fun j1 =>
 (head_End j1.Reader.Buf).bind fun x7 =>
 bif (x7.2 == (3 : Int)) then
  some (false, j1)
 else
  bif (x7.2 != (0 : Int)) then
   (wire_reading_fail j1 x7.2).bind fun x8 =>
   some (x8.1, x8.2)
  else
   (slc j1.Reader.Buf 0 x7.1).bind fun x9 =>
   (strings_Cut x9 ([10] : Bytes)).bind fun x10 =>
   bif j1.Reader.Asks then
    (strings_TrimSuffix x10.1 ([13] : Bytes)).bind fun x11 =>
    (start_Parse x11).bind fun x12 =>
    bif (x12.2 != (0 : Int)) then
     (wire_reading_fail (S_wire_reading.mk (S_Reader.mk j1.Reader.Asks j1.Reader.Method j1.Reader.Buf j1.Reader.In (S_Message.mk x12.1 j1.Reader.Head.Fields j1.Reader.Head.Body) j1.Reader.Body j1.Reader.Chunk j1.Reader.Bad) j1.out) x12.2).bind fun x13 =>
     some (x13.1, x13.2)
    else
     (strings_TrimSuffix x10.2.1 ([10] : Bytes)).bind fun x14 =>
     (strings_TrimSuffix x14 ([13] : Bytes)).bind fun x15 =>
     (head_Parse x15).bind fun x16 =>
     bif (x16.2 != (0 : Int)) then
      (wire_reading_fail (S_wire_reading.mk (S_Reader.mk j1.Reader.Asks j1.Reader.Method j1.Reader.Buf j1.Reader.In (S_Message.mk x12.1 x16.1 j1.Reader.Head.Body) j1.Reader.Body j1.Reader.Chunk j1.Reader.Bad) j1.out) x16.2).bind fun x17 =>
      some (x17.1, x17.2)
     else
      (wire_body (S_Reader.mk j1.Reader.Asks j1.Reader.Method j1.Reader.Buf j1.Reader.In (S_Message.mk x12.1 x16.1 j1.Reader.Head.Body) j1.Reader.Body j1.Reader.Chunk j1.Reader.Bad)).bind fun x18 =>
      bif (x18.2 != (0 : Int)) then
       (wire_reading_fail (S_wire_reading.mk (S_Reader.mk j1.Reader.Asks j1.Reader.Method j1.Reader.Buf j1.Reader.In (S_Message.mk x12.1 x16.1 j1.Reader.Head.Body) x18.1 j1.Reader.Chunk j1.Reader.Bad) j1.out) x18.2).bind fun x19 =>
       some (x19.1, x19.2)
      else
       (slc j1.Reader.Buf x7.1 (j1.Reader.Buf.length : Int)).bind fun x20 =>
       bif (bif (x12.1.Code != (0 : Int)) then (decide (x12.1.Code < (200 : Int))) else false) then
        some (true, (S_wire_reading.mk (S_Reader.mk j1.Reader.Asks j1.Reader.Method x20 j1.Reader.In (S_Message.mk (S_Start.mk ([] : Bytes) ([] : Bytes) (0 : Int) ([] : Bytes) (0 : Int)) ([] : List S_Field) ([] : Bytes)) (S_Body.mk (0 : Int) (0 : Int)) j1.Reader.Chunk j1.Reader.Bad) j1.out))
       else
        some (true, (S_wire_reading.mk (S_Reader.mk j1.Reader.Asks j1.Reader.Method x20 true (S_Message.mk x12.1 x16.1 j1.Reader.Head.Body) x18.1 j1.Reader.Chunk j1.Reader.Bad) j1.out))
   else
    (strings_TrimSuffix x10.1 ([13] : Bytes)).bind fun x21 =>
    (start_Status x21).bind fun x22 =>
    bif (x22.2 != (0 : Int)) then
     (wire_reading_fail (S_wire_reading.mk (S_Reader.mk j1.Reader.Asks j1.Reader.Method j1.Reader.Buf j1.Reader.In (S_Message.mk x22.1 j1.Reader.Head.Fields j1.Reader.Head.Body) j1.Reader.Body j1.Reader.Chunk j1.Reader.Bad) j1.out) x22.2).bind fun x23 =>
     some (x23.1, x23.2)
    else
     (strings_TrimSuffix x10.2.1 ([10] : Bytes)).bind fun x24 =>
     (strings_TrimSuffix x24 ([13] : Bytes)).bind fun x25 =>
     (head_Parse x25).bind fun x26 =>
     bif (x26.2 != (0 : Int)) then
      (wire_reading_fail (S_wire_reading.mk (S_Reader.mk j1.Reader.Asks j1.Reader.Method j1.Reader.Buf j1.Reader.In (S_Message.mk x22.1 x26.1 j1.Reader.Head.Body) j1.Reader.Body j1.Reader.Chunk j1.Reader.Bad) j1.out) x26.2).bind fun x27 =>
      some (x27.1, x27.2)
     else
      (wire_body (S_Reader.mk j1.Reader.Asks j1.Reader.Method j1.Reader.Buf j1.Reader.In (S_Message.mk x22.1 x26.1 j1.Reader.Head.Body) j1.Reader.Body j1.Reader.Chunk j1.Reader.Bad)).bind fun x28 =>
      bif (x28.2 != (0 : Int)) then
       (wire_reading_fail (S_wire_reading.mk (S_Reader.mk j1.Reader.Asks j1.Reader.Method j1.Reader.Buf j1.Reader.In (S_Message.mk x22.1 x26.1 j1.Reader.Head.Body) x28.1 j1.Reader.Chunk j1.Reader.Bad) j1.out) x28.2).bind fun x29 =>
       some (x29.1, x29.2)
      else
       (slc j1.Reader.Buf x7.1 (j1.Reader.Buf.length : Int)).bind fun x30 =>
       bif (bif (x22.1.Code != (0 : Int)) then (decide (x22.1.Code < (200 : Int))) else false) then
        some (true, (S_wire_reading.mk (S_Reader.mk j1.Reader.Asks j1.Reader.Method x30 j1.Reader.In (S_Message.mk (S_Start.mk ([] : Bytes) ([] : Bytes) (0 : Int) ([] : Bytes) (0 : Int)) ([] : List S_Field) ([] : Bytes)) (S_Body.mk (0 : Int) (0 : Int)) j1.Reader.Chunk j1.Reader.Bad) j1.out))
       else
        some (true, (S_wire_reading.mk (S_Reader.mk j1.Reader.Asks j1.Reader.Method x30 true (S_Message.mk x22.1 x26.1 j1.Reader.Head.Body) x28.1 j1.Reader.Chunk j1.Reader.Bad) j1.out))
noncomputable def wire_Feed_b1 (s3 : S_wire_reading) : Option (S_wire_reading ⊕ (S_Reader × (List S_Message) × Int)) :=
 bif s3.Reader.In then
  (wire_reading_more s3).bind fun x4 =>
  bif (!x4.1) then
   some (.inr (x4.2.Reader, x4.2.out, (0 : Int)))
  else
   some (.inl x4.2)
 else
  (wire_reading_begin s3).bind fun x5 =>
  bif (!x5.1) then
   some (.inr (x5.2.Reader, x5.2.out, (0 : Int)))
  else
   some (.inl x5.2)
noncomputable def wire_Feed (a0 : S_Reader) (a1 : Bytes) : Option (S_Reader × (List S_Message) × Int) :=
 (wire_Right a0).bind fun x1 =>
 bif (!x1) then
  some ((S_Reader.mk false ([] : Bytes) ([] : Bytes) false (S_Message.mk (S_Start.mk ([] : Bytes) ([] : Bytes) (0 : Int) ([] : Bytes) (0 : Int)) ([] : List S_Field) ([] : Bytes)) (S_Body.mk (0 : Int) (0 : Int)) (S_Chunked.mk (0 : Int) ([] : Bytes) (0 : Int) (0 : Int)) (0 : Int)), ([] : List S_Message), (1 : Int))
 else
  bif (a0.Bad != (0 : Int)) then
   some (a0, ([] : List S_Message), (0 : Int))
  else
   (cat a0.Buf a1).bind fun x2 =>
   loopO wire_Feed_b1 (S_wire_reading.mk (S_Reader.mk a0.Asks a0.Method x2 a0.In a0.Head a0.Body a0.Chunk a0.Bad) ([] : List S_Message))
noncomputable def intarsiaref10_skip_b1 (s1 : Bytes) : Option (Bytes ⊕ Bytes) :=
 (gidx (decide ((s1.length : Int) > (0 : Int))) s1 (0 : Int)).bind fun x2 =>
 bif (bif (decide ((s1.length : Int) > (0 : Int))) then ((x2.toNat : Int) == (10 : Int)) else false) then
  (slc s1 (1 : Int) (s1.length : Int)).bind fun x3 =>
  some (.inl x3)
 else
  (gidx (decide ((s1.length : Int) > (1 : Int))) s1 (0 : Int)).bind fun x4 =>
  (gidx (bif (decide ((s1.length : Int) > (1 : Int))) then ((x4.toNat : Int) == (13 : Int)) else false) s1 (1 : Int)).bind fun x5 =>
  bif (bif (bif (decide ((s1.length : Int) > (1 : Int))) then ((x4.toNat : Int) == (13 : Int)) else false) then ((x5.toNat : Int) == (10 : Int)) else false) then
   (slc s1 (2 : Int) (s1.length : Int)).bind fun x6 =>
   some (.inl x6)
  else
   some (.inr s1)
noncomputable def intarsiaref10_skip (a0 : Bytes) : Option Bytes :=
 loopO intarsiaref10_skip_b1 a0
noncomputable def intarsiaref07_Find_b1 (a0 : Bytes) (a1 : Int) (s1 : Int) : Option (Int ⊕ Int) :=
 bif (decide (s1 < (a0.length : Int))) then
  (idx a0 s1).bind fun x2 =>
  bif ((x2.toNat : Int) == a1) then
   some (.inr s1)
  else
   some (.inl (IntKind.i64.wrap (s1 + (1 : Int))))
 else
  some (.inr (-1 : Int))
noncomputable def intarsiaref07_Find (a0 : Bytes) (a1 : Int) : Option Int :=
 loopO (intarsiaref07_Find_b1 a0 a1) (0 : Int)
noncomputable def intarsiaref07_Bare (a0 : Bytes) : Option Bytes :=
 (gidx (decide ((a0.length : Int) > (0 : Int))) a0 (IntKind.i64.wrap ((a0.length : Int) - (1 : Int)))).bind fun x1 =>
 bif (bif (decide ((a0.length : Int) > (0 : Int))) then ((x1.toNat : Int) == (13 : Int)) else false) then
  (slc a0 0 (IntKind.i64.wrap ((a0.length : Int) - (1 : Int)))).bind fun x2 =>
  some x2
 else
  some a0
noncomputable def intarsiaref07_End_b1 (a0 : Bytes) (s1 : Int) : Option (Int ⊕ (Int × Int)) :=
 (slc a0 s1 (a0.length : Int)).bind fun x2 =>
 (intarsiaref07_Find x2 (10 : Int)).bind fun x3 =>
 bif (decide (x3 < (0 : Int))) then
  bif (decide ((a0.length : Int) > (4000 : Int))) then
   some (.inr ((0 : Int), (2 : Int)))
  else
   some (.inr ((0 : Int), (3 : Int)))
 else
  (slc a0 s1 (IntKind.i64.wrap (s1 + x3))).bind fun x4 =>
  (intarsiaref07_Bare x4).bind fun x5 =>
  bif (decide ((IntKind.i64.wrap ((IntKind.i64.wrap (s1 + x3)) + (1 : Int))) > (4000 : Int))) then
   some (.inr ((0 : Int), (2 : Int)))
  else
   bif (x5 == ([] : Bytes)) then
    some (.inr ((IntKind.i64.wrap ((IntKind.i64.wrap (s1 + x3)) + (1 : Int))), (0 : Int)))
   else
    some (.inl (IntKind.i64.wrap ((IntKind.i64.wrap (s1 + x3)) + (1 : Int))))
noncomputable def intarsiaref07_End (a0 : Bytes) : Option (Int × Int) :=
 loopO (intarsiaref07_End_b1 a0) (0 : Int)
noncomputable def intarsiaref10_line (a0 : Bytes) : Option (Bytes × Bytes) :=
 (intarsiaref07_Find a0 (10 : Int)).bind fun x1 =>
 (slc a0 0 x1).bind fun x2 =>
 (intarsiaref07_Bare x2).bind fun x3 =>
 (slc a0 (IntKind.i64.wrap (x1 + (1 : Int))) (a0.length : Int)).bind fun x4 =>
 some (x3, x4)
noncomputable def intarsiaref06_cut_b1 (a0 : Bytes) (s1 : Int) : Option (Int ⊕ (Bytes × Bytes × Bool)) :=
 bif (decide (s1 < (a0.length : Int))) then
  (idx a0 s1).bind fun x2 =>
  bif ((x2.toNat : Int) == (32 : Int)) then
   (slc a0 0 s1).bind fun x3 =>
   (slc a0 (IntKind.i64.wrap (s1 + (1 : Int))) (a0.length : Int)).bind fun x4 =>
   some (.inr (x3, x4, true))
  else
   some (.inl (IntKind.i64.wrap (s1 + (1 : Int))))
 else
  some (.inr (a0, ([] : Bytes), false))
noncomputable def intarsiaref06_cut (a0 : Bytes) : Option (Bytes × Bytes × Bool) :=
 loopO (intarsiaref06_cut_b1 a0) (0 : Int)
noncomputable def intarsiaref03_Control (a0 : Int) : Option Bool :=
 some (bif (bif (decide (a0 < (32 : Int))) then (a0 != (9 : Int)) else false) then true else (a0 == (127 : Int)))
noncomputable def intarsiaref03_blank (a0 : Int) : Option Bool :=
 some (bif (a0 == (32 : Int)) then true else (a0 == (9 : Int)))
noncomputable def intarsiaref03_Trim_b1 (s2 : Bytes) : Option (Bytes ⊕ Bytes) :=
 (gidx (decide ((s2.length : Int) > (0 : Int))) s2 (0 : Int)).bind fun x3 =>
 (gcall (decide ((s2.length : Int) > (0 : Int))) (intarsiaref03_blank (x3.toNat : Int))).bind fun x4 =>
 bif (bif (decide ((s2.length : Int) > (0 : Int))) then x4 else false) then
  (slc s2 (1 : Int) (s2.length : Int)).bind fun x5 =>
  some (.inl x5)
 else
  some (.inr s2)
noncomputable def intarsiaref03_Trim_b2 (s7 : Bytes) : Option (Bytes ⊕ Bytes) :=
 (gidx (decide ((s7.length : Int) > (0 : Int))) s7 (IntKind.i64.wrap ((s7.length : Int) - (1 : Int)))).bind fun x8 =>
 (gcall (decide ((s7.length : Int) > (0 : Int))) (intarsiaref03_blank (x8.toNat : Int))).bind fun x9 =>
 bif (bif (decide ((s7.length : Int) > (0 : Int))) then x9 else false) then
  (slc s7 0 (IntKind.i64.wrap ((s7.length : Int) - (1 : Int)))).bind fun x10 =>
  some (.inl x10)
 else
  some (.inr s7)
noncomputable def intarsiaref03_Trim (a0 : Bytes) : Option Bytes :=
 (loopO intarsiaref03_Trim_b1 a0 : Option Bytes).bind fun j1 =>
 (loopO intarsiaref03_Trim_b2 j1 : Option Bytes).bind fun j6 =>
 some j6
noncomputable def intarsiaref05_find_b1 (a0 : Bytes) (a1 : Int) (s1 : Int) : Option (Int ⊕ Int) :=
 bif (decide (s1 < (a0.length : Int))) then
  (idx a0 s1).bind fun x2 =>
  bif ((x2.toNat : Int) == a1) then
   some (.inr s1)
  else
   some (.inl (IntKind.i64.wrap (s1 + (1 : Int))))
 else
  some (.inr (-1 : Int))
noncomputable def intarsiaref05_find (a0 : Bytes) (a1 : Int) : Option Int :=
 loopO (intarsiaref05_find_b1 a0 a1) (0 : Int)
noncomputable def intarsiaref05_Bytes_b1 (a0 : Bytes) (s1 : Int) : Option (Int ⊕ Bool) :=
 bif (decide (s1 < (a0.length : Int))) then
  (idx a0 s1).bind fun x2 =>
  (gcall (!(bif (bif (decide ((x2.toNat : Int) < (33 : Int))) then true else (decide ((x2.toNat : Int) > (126 : Int)))) then true else ((x2.toNat : Int) == (96 : Int)))) (intarsiaref05_find ([34, 35, 60, 62, 92, 94, 123, 124, 125] : Bytes) (x2.toNat : Int))).bind fun x3 =>
  bif (bif (bif (bif (decide ((x2.toNat : Int) < (33 : Int))) then true else (decide ((x2.toNat : Int) > (126 : Int)))) then true else ((x2.toNat : Int) == (96 : Int))) then true else (decide (x3 ≥ (0 : Int)))) then
   some (.inr false)
  else
   some (.inl (IntKind.i64.wrap (s1 + (1 : Int))))
 else
  some (.inr true)
noncomputable def intarsiaref05_Bytes (a0 : Bytes) : Option Bool :=
 loopO (intarsiaref05_Bytes_b1 a0) (0 : Int)
noncomputable def intarsiaref03_word_b1 (a0 : Int) (s1 : Int) : Option (Int ⊕ Bool) :=
 bif (decide (s1 < (([33, 35, 36, 37, 38, 39, 42, 43, 45, 46, 94, 95, 124, 126] : Bytes).length : Int))) then
  (idx ([33, 35, 36, 37, 38, 39, 42, 43, 45, 46, 94, 95, 124, 126] : Bytes) s1).bind fun x2 =>
  bif ((x2.toNat : Int) == a0) then
   some (.inr true)
  else
   some (.inl (IntKind.i64.wrap (s1 + (1 : Int))))
 else
  some (.inr false)
noncomputable def intarsiaref03_word (a0 : Int) : Option Bool :=
 bif (bif (bif (bif (bif (decide (a0 ≥ (97 : Int))) then (decide (a0 <= (122 : Int))) else false) then true else (bif (decide (a0 ≥ (65 : Int))) then (decide (a0 <= (90 : Int))) else false)) then true else (bif (decide (a0 ≥ (48 : Int))) then (decide (a0 <= (57 : Int))) else false)) then true else (a0 == (96 : Int))) then
  some true
 else
  loopO (intarsiaref03_word_b1 a0) (0 : Int)
noncomputable def intarsiaref03_Token_b1 (a0 : Bytes) (s1 : Int) : Option (Int ⊕ Bool) :=
 bif (decide (s1 < (a0.length : Int))) then
  (idx a0 s1).bind fun x2 =>
  (intarsiaref03_word (x2.toNat : Int)).bind fun x3 =>
  bif (!x3) then
   some (.inr false)
  else
   some (.inl (IntKind.i64.wrap (s1 + (1 : Int))))
 else
  some (.inr (!(a0 == ([] : Bytes))))
noncomputable def intarsiaref03_Token (a0 : Bytes) : Option Bool :=
 loopO (intarsiaref03_Token_b1 a0) (0 : Int)
noncomputable def intarsiaref06_Right_b1 (a0 : S_Start) (s1 : Int) : Option (Int ⊕ Bool) :=
 bif (decide (s1 < (a0.Reason.length : Int))) then
  (idx a0.Reason s1).bind fun x2 =>
  (intarsiaref03_Control (x2.toNat : Int)).bind fun x3 =>
  bif x3 then
   some (.inr false)
  else
   some (.inl (IntKind.i64.wrap (s1 + (1 : Int))))
 else
  (gcall (bif (bif (bif (bif (decide (a0.Code ≥ (100 : Int))) then (decide (a0.Code < (600 : Int))) else false) then (a0.Method == ([] : Bytes)) else false) then (a0.Target == ([] : Bytes)) else false) then (decide ((a0.Reason.length : Int) <= (100 : Int))) else false) (intarsiaref03_Trim a0.Reason)).bind fun x4 =>
  some (.inr (bif (bif (bif (bif (bif (decide (a0.Code ≥ (100 : Int))) then (decide (a0.Code < (600 : Int))) else false) then (a0.Method == ([] : Bytes)) else false) then (a0.Target == ([] : Bytes)) else false) then (decide ((a0.Reason.length : Int) <= (100 : Int))) else false) then (x4 == a0.Reason) else false))
noncomputable def intarsiaref06_Right (a0 : S_Start) : Option Bool :=
 bif (bif (decide (a0.Minor < (0 : Int))) then true else (decide (a0.Minor > (1 : Int)))) then
  some false
 else
  bif (a0.Code != (0 : Int)) then
   loopO (intarsiaref06_Right_b1 a0) (0 : Int)
  else
   (gcall ((!(a0.Target == ([42] : Bytes))) && (bif (decide ((a0.Target.length : Int) > (0 : Int))) then (decide ((a0.Target.length : Int) <= (500 : Int))) else false)) (intarsiaref05_Bytes a0.Target)).bind fun x5 =>
   (gidx ((!(a0.Target == ([42] : Bytes))) && (bif (bif (decide ((a0.Target.length : Int) > (0 : Int))) then (decide ((a0.Target.length : Int) <= (500 : Int))) else false) then x5 else false)) a0.Target (0 : Int)).bind fun x6 =>
   (gslc ((((!(a0.Target == ([42] : Bytes))) && (bif (bif (decide ((a0.Target.length : Int) > (0 : Int))) then (decide ((a0.Target.length : Int) <= (500 : Int))) else false) then x5 else false)) && (!((x6.toNat : Int) == (47 : Int)))) && (decide ((a0.Target.length : Int) ≥ (7 : Int)))) a0.Target 0 (7 : Int)).bind fun x7 =>
   (gcall (bif (bif (a0.Target == ([42] : Bytes)) then true else (bif (bif (bif (decide ((a0.Target.length : Int) > (0 : Int))) then (decide ((a0.Target.length : Int) <= (500 : Int))) else false) then x5 else false) then (bif ((x6.toNat : Int) == (47 : Int)) then true else (bif (decide ((a0.Target.length : Int) ≥ (7 : Int))) then (x7 == ([104, 116, 116, 112, 58, 47, 47] : Bytes)) else false)) else false)) then (a0.Reason == ([] : Bytes)) else false) (intarsiaref03_Token a0.Method)).bind fun x8 =>
   some (bif (bif (bif (bif (a0.Target == ([42] : Bytes)) then true else (bif (bif (bif (decide ((a0.Target.length : Int) > (0 : Int))) then (decide ((a0.Target.length : Int) <= (500 : Int))) else false) then x5 else false) then (bif ((x6.toNat : Int) == (47 : Int)) then true else (bif (decide ((a0.Target.length : Int) ≥ (7 : Int))) then (x7 == ([104, 116, 116, 112, 58, 47, 47] : Bytes)) else false)) else false)) then (a0.Reason == ([] : Bytes)) else false) then x8 else false) then (decide ((a0.Method.length : Int) <= (20 : Int))) else false)
noncomputable def intarsiaref02_Digits_b1 (a1 : Int) (x : (Int × Bytes)) : Option ((Int × Bytes) ⊕ Bytes) :=
 match x with
 | (s2, s3) =>
  bif (bif (decide (s2 > (0 : Int))) then true else (s3 == ([] : Bytes))) then
   chk ((a1 == 0) = false /\ IntKind.u64.wrap (s2.tmod a1) = s2.tmod a1) <|
   chk ((a1 == 0) = false /\ IntKind.u64.wrap (s2.tmod a1) = s2.tmod a1) <|
   (slc ([48, 49, 50, 51, 52, 53, 54, 55, 56, 57, 97, 98, 99, 100, 101, 102] : Bytes) (s2.tmod a1) (IntKind.u64.wrap ((s2.tmod a1) + (1 : Int)))).bind fun x6 =>
   (cat x6 s3).bind fun x7 =>
   chk ((a1 == 0) = false) <|
   some (.inl ((IntKind.u64.wrap (s2.tdiv a1)), x7))
  else
   some (.inr s3)
noncomputable def intarsiaref02_Digits (a0 : Int) (a1 : Int) : Option Bytes :=
 (loopO (intarsiaref02_Digits_b1 a1) (a0, ([] : Bytes)) : Option Bytes).bind fun j1 =>
 some j1
noncomputable def intarsiaref06_Print (a0 : S_Start) : Option Bytes :=
 (intarsiaref02_Digits (IntKind.u64.wrap a0.Minor) (10 : Int)).bind fun x1 =>
 (cat ([72, 84, 84, 80, 47, 49, 46] : Bytes) x1).bind fun x2 =>
 bif (a0.Code == (0 : Int)) then
  (cat a0.Method ([32] : Bytes)).bind fun x3 =>
  (cat x3 a0.Target).bind fun x4 =>
  (cat x4 ([32] : Bytes)).bind fun x5 =>
  (cat x5 x2).bind fun x6 =>
  some x6
 else
  (cat x2 ([32] : Bytes)).bind fun x7 =>
  (intarsiaref02_Digits (IntKind.u64.wrap a0.Code) (10 : Int)).bind fun x8 =>
  (cat x7 x8).bind fun x9 =>
  (cat x9 ([32] : Bytes)).bind fun x10 =>
  (cat x10 a0.Reason).bind fun x11 =>
  some x11
noncomputable def intarsiaref06_Parse (a0 : Bytes) : Option (S_Start × Int) :=
 (intarsiaref06_cut a0).bind fun x1 =>
 (intarsiaref06_cut x1.2.1).bind fun x2 =>
 bif (x2.2.1 == ([72, 84, 84, 80, 47, 49, 46, 49] : Bytes)) then
  (intarsiaref06_Right (S_Start.mk x1.1 x2.1 (0 : Int) ([] : Bytes) (1 : Int))).bind fun x3 =>
  (gcall (!(!x3)) (intarsiaref06_Print (S_Start.mk x1.1 x2.1 (0 : Int) ([] : Bytes) (1 : Int)))).bind fun x4 =>
  bif (bif (!x3) then true else (!(x4 == a0))) then
   some ((S_Start.mk ([] : Bytes) ([] : Bytes) (0 : Int) ([] : Bytes) (0 : Int)), (30 : Int))
  else
   some ((S_Start.mk x1.1 x2.1 (0 : Int) ([] : Bytes) (1 : Int)), (0 : Int))
 else
  (intarsiaref06_Right (S_Start.mk x1.1 x2.1 (0 : Int) ([] : Bytes) (0 : Int))).bind fun x5 =>
  (gcall (!(!x5)) (intarsiaref06_Print (S_Start.mk x1.1 x2.1 (0 : Int) ([] : Bytes) (0 : Int)))).bind fun x6 =>
  bif (bif (!x5) then true else (!(x6 == a0))) then
   some ((S_Start.mk ([] : Bytes) ([] : Bytes) (0 : Int) ([] : Bytes) (0 : Int)), (30 : Int))
  else
   some ((S_Start.mk x1.1 x2.1 (0 : Int) ([] : Bytes) (0 : Int)), (0 : Int))
noncomputable def intarsiaref02_value (a0 : Int) : Option Int :=
 bif (bif (decide (a0 ≥ (48 : Int))) then (decide (a0 <= (57 : Int))) else false) then
  some (IntKind.u64.wrap (IntKind.u8.wrap (a0 - (48 : Int))))
 else
  bif (bif (decide (a0 ≥ (97 : Int))) then (decide (a0 <= (102 : Int))) else false) then
   some (IntKind.u64.wrap ((IntKind.u64.wrap (IntKind.u8.wrap (a0 - (97 : Int)))) + (10 : Int)))
  else
   bif (bif (decide (a0 ≥ (65 : Int))) then (decide (a0 <= (70 : Int))) else false) then
    some (IntKind.u64.wrap ((IntKind.u64.wrap (IntKind.u8.wrap (a0 - (65 : Int)))) + (10 : Int)))
   else
    some (99 : Int)
noncomputable def intarsiaref02_Read_b2 (a0 : Bytes) (a1 : Int) (x : (Int × Int)) : Option ((Int × Int) ⊕ (Int ⊕ (Int × Int))) :=
 match x with
 | (s4, s5) =>
  bif (decide (s5 < (a0.length : Int))) then
   (idx a0 s5).bind fun x6 =>
   (intarsiaref02_value (x6.toNat : Int)).bind fun x7 =>
   bif (decide ((IntKind.u64.wrap ((IntKind.u64.wrap (a1 * s4)) + x7)) > (1099511627776 : Int))) then
    some (.inr (.inr ((0 : Int), (2 : Int))))
   else
    some (.inl ((IntKind.u64.wrap ((IntKind.u64.wrap (a1 * s4)) + x7)), (IntKind.i64.wrap (s5 + (1 : Int)))))
  else
   some (.inr (.inr (s4, (0 : Int))))
noncomputable def intarsiaref02_Read_b1 (a0 : Bytes) (a1 : Int) (s1 : Int) : Option (Int ⊕ (Int × Int)) :=
 bif (decide (s1 < (a0.length : Int))) then
  (idx a0 s1).bind fun x2 =>
  (intarsiaref02_value (x2.toNat : Int)).bind fun x3 =>
  bif (decide (x3 ≥ a1)) then
   some (.inr ((0 : Int), (10 : Int)))
  else
   some (.inl (IntKind.i64.wrap (s1 + (1 : Int))))
 else
  loopO (intarsiaref02_Read_b2 a0 a1) ((0 : Int), (0 : Int))
noncomputable def intarsiaref02_Read (a0 : Bytes) (a1 : Int) : Option (Int × Int) :=
 bif (a0 == ([] : Bytes)) then
  some ((0 : Int), (10 : Int))
 else
  loopO (intarsiaref02_Read_b1 a0 a1) (0 : Int)
noncomputable def intarsiaref06_Status (a0 : Bytes) : Option (S_Start × Int) :=
 (intarsiaref06_cut a0).bind fun x1 =>
 (intarsiaref06_cut x1.2.1).bind fun x2 =>
 (intarsiaref02_Read x2.1 (10 : Int)).bind fun x3 =>
 bif (x1.1 == ([72, 84, 84, 80, 47, 49, 46, 49] : Bytes)) then
  bif (!x2.2.2) then
   (cat a0 ([32] : Bytes)).bind fun x4 =>
   (gcall (!(x3.1 == (0 : Int))) (intarsiaref06_Right (S_Start.mk ([] : Bytes) ([] : Bytes) (IntKind.i64.wrap x3.1) x2.2.1 (1 : Int)))).bind fun x5 =>
   (gcall (!(bif (x3.1 == (0 : Int)) then true else (!x5))) (intarsiaref06_Print (S_Start.mk ([] : Bytes) ([] : Bytes) (IntKind.i64.wrap x3.1) x2.2.1 (1 : Int)))).bind fun x6 =>
   bif (bif (bif (x3.1 == (0 : Int)) then true else (!x5)) then true else (!(x6 == x4))) then
    some ((S_Start.mk ([] : Bytes) ([] : Bytes) (0 : Int) ([] : Bytes) (0 : Int)), (30 : Int))
   else
    some ((S_Start.mk ([] : Bytes) ([] : Bytes) (IntKind.i64.wrap x3.1) x2.2.1 (1 : Int)), (0 : Int))
  else
   (gcall (!(x3.1 == (0 : Int))) (intarsiaref06_Right (S_Start.mk ([] : Bytes) ([] : Bytes) (IntKind.i64.wrap x3.1) x2.2.1 (1 : Int)))).bind fun x7 =>
   (gcall (!(bif (x3.1 == (0 : Int)) then true else (!x7))) (intarsiaref06_Print (S_Start.mk ([] : Bytes) ([] : Bytes) (IntKind.i64.wrap x3.1) x2.2.1 (1 : Int)))).bind fun x8 =>
   bif (bif (bif (x3.1 == (0 : Int)) then true else (!x7)) then true else (!(x8 == a0))) then
    some ((S_Start.mk ([] : Bytes) ([] : Bytes) (0 : Int) ([] : Bytes) (0 : Int)), (30 : Int))
   else
    some ((S_Start.mk ([] : Bytes) ([] : Bytes) (IntKind.i64.wrap x3.1) x2.2.1 (1 : Int)), (0 : Int))
 else
  bif (!x2.2.2) then
   (cat a0 ([32] : Bytes)).bind fun x9 =>
   (gcall (!(x3.1 == (0 : Int))) (intarsiaref06_Right (S_Start.mk ([] : Bytes) ([] : Bytes) (IntKind.i64.wrap x3.1) x2.2.1 (0 : Int)))).bind fun x10 =>
   (gcall (!(bif (x3.1 == (0 : Int)) then true else (!x10))) (intarsiaref06_Print (S_Start.mk ([] : Bytes) ([] : Bytes) (IntKind.i64.wrap x3.1) x2.2.1 (0 : Int)))).bind fun x11 =>
   bif (bif (bif (x3.1 == (0 : Int)) then true else (!x10)) then true else (!(x11 == x9))) then
    some ((S_Start.mk ([] : Bytes) ([] : Bytes) (0 : Int) ([] : Bytes) (0 : Int)), (30 : Int))
   else
    some ((S_Start.mk ([] : Bytes) ([] : Bytes) (IntKind.i64.wrap x3.1) x2.2.1 (0 : Int)), (0 : Int))
  else
   (gcall (!(x3.1 == (0 : Int))) (intarsiaref06_Right (S_Start.mk ([] : Bytes) ([] : Bytes) (IntKind.i64.wrap x3.1) x2.2.1 (0 : Int)))).bind fun x12 =>
   (gcall (!(bif (x3.1 == (0 : Int)) then true else (!x12))) (intarsiaref06_Print (S_Start.mk ([] : Bytes) ([] : Bytes) (IntKind.i64.wrap x3.1) x2.2.1 (0 : Int)))).bind fun x13 =>
   bif (bif (bif (x3.1 == (0 : Int)) then true else (!x12)) then true else (!(x13 == a0))) then
    some ((S_Start.mk ([] : Bytes) ([] : Bytes) (0 : Int) ([] : Bytes) (0 : Int)), (30 : Int))
   else
    some ((S_Start.mk ([] : Bytes) ([] : Bytes) (IntKind.i64.wrap x3.1) x2.2.1 (0 : Int)), (0 : Int))
noncomputable def intarsiaref04_May_b1 (a0 : S_Field) (s1 : Int) : Option (Int ⊕ Bool) :=
 bif (decide (s1 < (a0.Value.length : Int))) then
  (idx a0.Value s1).bind fun x2 =>
  (intarsiaref03_Control (x2.toNat : Int)).bind fun x3 =>
  bif x3 then
   some (.inr false)
  else
   some (.inl (IntKind.i64.wrap (s1 + (1 : Int))))
 else
  (intarsiaref03_Token a0.Name).bind fun x4 =>
  (gcall x4 (intarsiaref03_Trim a0.Value)).bind fun x5 =>
  some (.inr (bif (bif x4 then (x5 == a0.Value) else false) then (decide ((a0.Value.length : Int) <= (1000 : Int))) else false))
noncomputable def intarsiaref04_May (a0 : S_Field) : Option Bool :=
 loopO (intarsiaref04_May_b1 a0) (0 : Int)
noncomputable def intarsiaref07_Parse_b1 (x : (Bytes × (List S_Field))) : Option ((Bytes × (List S_Field)) ⊕ ((List S_Field) × Int)) :=
 match x with
 | (s2, s3) =>
  bif (!(s2 == ([] : Bytes))) then
   (intarsiaref07_Find s2 (10 : Int)).bind fun x4 =>
   (slc s2 0 x4).bind fun x5 =>
   (intarsiaref07_Bare x5).bind fun x6 =>
   (slc s2 (IntKind.i64.wrap (x4 + (1 : Int))) (s2.length : Int)).bind fun x7 =>
   (intarsiaref07_Find x6 (58 : Int)).bind fun x8 =>
   bif (decide (x8 < (0 : Int))) then
    some (.inr (([] : List S_Field), (31 : Int)))
   else
    (slc x6 0 x8).bind fun x9 =>
    (slc x6 (IntKind.i64.wrap (x8 + (1 : Int))) (x6.length : Int)).bind fun x10 =>
    (intarsiaref03_Trim x10).bind fun x11 =>
    (intarsiaref04_May (S_Field.mk x9 x11)).bind fun x12 =>
    bif (!x12) then
     some (.inr (([] : List S_Field), (31 : Int)))
    else
     bif ((s3.length : Int) == (40 : Int)) then
      some (.inr (([] : List S_Field), (4 : Int)))
     else
      (app 32 s3 ([(S_Field.mk x9 x11)] : List S_Field)).bind fun x13 =>
      some (.inl (x7, x13))
  else
   some (.inr (s3, (0 : Int)))
noncomputable def intarsiaref07_Parse (a0 : Bytes) : Option ((List S_Field) × Int) :=
 bif (decide ((a0.length : Int) > (4000 : Int))) then
  some (([] : List S_Field), (2 : Int))
 else
  (gidx (!(a0 == ([] : Bytes))) a0 (IntKind.i64.wrap ((a0.length : Int) - (1 : Int)))).bind fun x1 =>
  bif (bif (!(a0 == ([] : Bytes))) then ((x1.toNat : Int) != (10 : Int)) else false) then
   some (([] : List S_Field), (31 : Int))
  else
   loopO intarsiaref07_Parse_b1 (a0, ([] : List S_Field))
noncomputable def intarsiaref04_Right_b1 (a0 : (List S_Field)) (s1 : Int) : Option (Int ⊕ Bool) :=
 bif (decide (s1 < (a0.length : Int))) then
  (idx a0 s1).bind fun x2 =>
  (intarsiaref04_May x2).bind fun x3 =>
  bif (!x3) then
   some (.inr false)
  else
   some (.inl (IntKind.i64.wrap (s1 + (1 : Int))))
 else
  some (.inr (decide ((a0.length : Int) <= (40 : Int))))
noncomputable def intarsiaref04_Right (a0 : (List S_Field)) : Option Bool :=
 loopO (intarsiaref04_Right_b1 a0) (0 : Int)
noncomputable def intarsiaref03_Lower_b1 (a0 : Bytes) (x : (Bytes × Int)) : Option ((Bytes × Int) ⊕ Bytes) :=
 match x with
 | (s2, s3) =>
  bif (decide (s3 < (a0.length : Int))) then
   (idx a0 s3).bind fun x4 =>
   bif (bif (decide ((x4.toNat : Int) ≥ (65 : Int))) then (decide ((x4.toNat : Int) <= (90 : Int))) else false) then
    (cat s2 ([u8 (IntKind.u8.wrap ((x4.toNat : Int) + (32 : Int)))] : List UInt8)).bind fun x5 =>
    some (.inl (x5, (IntKind.i64.wrap (s3 + (1 : Int)))))
   else
    (cat s2 ([u8 (x4.toNat : Int)] : List UInt8)).bind fun x6 =>
    some (.inl (x6, (IntKind.i64.wrap (s3 + (1 : Int)))))
  else
   some (.inr s2)
noncomputable def intarsiaref03_Lower (a0 : Bytes) : Option Bytes :=
 (loopO (intarsiaref03_Lower_b1 a0) (([] : Bytes), (0 : Int)) : Option Bytes).bind fun j1 =>
 some j1
noncomputable def intarsiaref04_same (a0 : Bytes) (a1 : Bytes) : Option Bool :=
 (intarsiaref03_Lower a0).bind fun x1 =>
 (intarsiaref03_Lower a1).bind fun x2 =>
 some (x1 == x2)
noncomputable def intarsiaref04_All_b1 (a0 : (List S_Field)) (a1 : Bytes) (x : ((List Bytes) × Int)) : Option (((List Bytes) × Int) ⊕ (List Bytes)) :=
 match x with
 | (s2, s3) =>
  bif (decide (s3 < (a0.length : Int))) then
   (idx a0 s3).bind fun x4 =>
   (intarsiaref04_same x4.Name a1).bind fun x5 =>
   bif x5 then
    (app 16 s2 ([x4.Value] : List Bytes)).bind fun x6 =>
    some (.inl (x6, (IntKind.i64.wrap (s3 + (1 : Int)))))
   else
    some (.inl (s2, (IntKind.i64.wrap (s3 + (1 : Int)))))
  else
   some (.inr s2)
noncomputable def intarsiaref04_All (a0 : (List S_Field)) (a1 : Bytes) : Option (List Bytes) :=
 (loopO (intarsiaref04_All_b1 a0 a1) (([] : List Bytes), (0 : Int)) : Option (List Bytes)).bind fun j1 =>
 some j1
noncomputable def intarsiaref04_Joined_b1 (a0 : (List Bytes)) (x : (Bytes × Int)) : Option ((Bytes × Int) ⊕ Bytes) :=
 match x with
 | (s2, s3) =>
  bif (decide (s3 < (a0.length : Int))) then
   (idx a0 s3).bind fun x4 =>
   bif (decide (s3 > (0 : Int))) then
    (cat s2 ([44, 32] : Bytes)).bind fun x5 =>
    (cat x5 x4).bind fun x6 =>
    some (.inl (x6, (IntKind.i64.wrap (s3 + (1 : Int)))))
   else
    (cat s2 x4).bind fun x7 =>
    some (.inl (x7, (IntKind.i64.wrap (s3 + (1 : Int)))))
  else
   some (.inr s2)
noncomputable def intarsiaref04_Joined (a0 : (List Bytes)) : Option Bytes :=
 (loopO (intarsiaref04_Joined_b1 a0) (([] : Bytes), (0 : Int)) : Option Bytes).bind fun j1 =>
 some j1
noncomputable def intarsiaref09_Say_b1 (x2 : (List Bytes)) (x : (Int × Int)) : Option ((Int × Int) ⊕ (S_Body × Int)) :=
 match x with
 | (s5, s6) =>
  bif (decide (s6 < (x2.length : Int))) then
   (idx x2 s6).bind fun x7 =>
   (intarsiaref02_Read x7 (10 : Int)).bind fun x8 =>
   bif (x8.2 == (2 : Int)) then
    bif (bif (x8.2 == (10 : Int)) then true else (bif (decide (s6 > (0 : Int))) then ((18446744073709551615 : Int) != s5) else false)) then
     some (.inr ((S_Body.mk (0 : Int) (0 : Int)), (32 : Int)))
    else
     some (.inl ((18446744073709551615 : Int), (IntKind.i64.wrap (s6 + (1 : Int)))))
   else
    bif (bif (x8.2 == (10 : Int)) then true else (bif (decide (s6 > (0 : Int))) then (x8.1 != s5) else false)) then
     some (.inr ((S_Body.mk (0 : Int) (0 : Int)), (32 : Int)))
    else
     some (.inl (x8.1, (IntKind.i64.wrap (s6 + (1 : Int)))))
  else
   bif (decide (s5 > (20000 : Int))) then
    some (.inr ((S_Body.mk (0 : Int) (0 : Int)), (2 : Int)))
   else
    some (.inr ((S_Body.mk (1 : Int) (IntKind.i64.wrap s5)), (0 : Int)))
noncomputable def intarsiaref09_Say (a0 : Int) (a1 : (List S_Field)) : Option (S_Body × Int) :=
 (intarsiaref04_All a1 ([116, 114, 97, 110, 115, 102, 101, 114, 45, 101, 110, 99, 111, 100, 105, 110, 103] : Bytes)).bind fun x1 =>
 (intarsiaref04_All a1 ([99, 111, 110, 116, 101, 110, 116, 45, 108, 101, 110, 103, 116, 104] : Bytes)).bind fun x2 =>
 bif (decide ((x1.length : Int) > (0 : Int))) then
  (gcall (!(bif (decide ((x2.length : Int) > (0 : Int))) then true else (a0 == (0 : Int)))) (intarsiaref04_Joined x1)).bind fun x3 =>
  (gcall (!(bif (decide ((x2.length : Int) > (0 : Int))) then true else (a0 == (0 : Int)))) (intarsiaref03_Lower x3)).bind fun x4 =>
  bif (bif (bif (decide ((x2.length : Int) > (0 : Int))) then true else (a0 == (0 : Int))) then true else (!(x4 == ([99, 104, 117, 110, 107, 101, 100] : Bytes)))) then
   some ((S_Body.mk (0 : Int) (0 : Int)), (32 : Int))
  else
   some ((S_Body.mk (2 : Int) (0 : Int)), (0 : Int))
 else
  bif ((x2.length : Int) == (0 : Int)) then
   some ((S_Body.mk (-1 : Int) (0 : Int)), (0 : Int))
  else
   loopO (intarsiaref09_Say_b1 x2) ((0 : Int), (0 : Int))
noncomputable def intarsiaref09_Request (a0 : S_Start) (a1 : (List S_Field)) : Option (S_Body × Int) :=
 (intarsiaref06_Right a0).bind fun x1 =>
 (gcall (!(bif (!x1) then true else (a0.Code != (0 : Int)))) (intarsiaref04_Right a1)).bind fun x2 =>
 bif (bif (bif (!x1) then true else (a0.Code != (0 : Int))) then true else (!x2)) then
  some ((S_Body.mk (0 : Int) (0 : Int)), (1 : Int))
 else
  (intarsiaref09_Say a0.Minor a1).bind fun x3 =>
  bif (decide (x3.1.Kind < (0 : Int))) then
   some ((S_Body.mk (0 : Int) (0 : Int)), x3.2)
  else
   some (x3.1, x3.2)
noncomputable def intarsiaref09_Answer (a0 : S_Start) (a1 : (List S_Field)) (a2 : Bytes) : Option (S_Body × Int) :=
 (intarsiaref06_Right a0).bind fun x1 =>
 (gcall (!(bif (!x1) then true else (a0.Code == (0 : Int)))) (intarsiaref04_Right a1)).bind fun x2 =>
 bif (bif (bif (!x1) then true else (a0.Code == (0 : Int))) then true else (!x2)) then
  some ((S_Body.mk (0 : Int) (0 : Int)), (1 : Int))
 else
  bif (bif (bif (bif (decide (a0.Code < (200 : Int))) then true else (a0.Code == (204 : Int))) then true else (a0.Code == (304 : Int))) then true else (a2 == ([72, 69, 65, 68] : Bytes))) then
   some ((S_Body.mk (0 : Int) (0 : Int)), (0 : Int))
  else
   (intarsiaref09_Say a0.Minor a1).bind fun x3 =>
   bif (decide (x3.1.Kind < (0 : Int))) then
    some ((S_Body.mk (3 : Int) (0 : Int)), x3.2)
   else
    some (x3.1, x3.2)
noncomputable def intarsiaref10_begin (a0 : Bool) (a1 : Bytes) (a2 : Bytes) : Option (S_Message × S_Body × Int) :=
 (intarsiaref10_line a2).bind fun x1 =>
 (intarsiaref06_Parse x1.1).bind fun x2 =>
 bif (!a0) then
  (intarsiaref06_Status x1.1).bind fun x3 =>
  bif (x3.2 != (0 : Int)) then
   some ((S_Message.mk x3.1 ([] : List S_Field) ([] : Bytes)), (S_Body.mk (0 : Int) (0 : Int)), x3.2)
  else
   (intarsiaref07_Parse x1.2).bind fun x4 =>
   bif (x4.2 != (0 : Int)) then
    some ((S_Message.mk x3.1 x4.1 ([] : Bytes)), (S_Body.mk (0 : Int) (0 : Int)), x4.2)
   else
    bif a0 then
     (intarsiaref09_Request (S_Start.mk x3.1.Method x3.1.Target x3.1.Code x3.1.Reason x3.1.Minor) x4.1).bind fun x5 =>
     some ((S_Message.mk (S_Start.mk x3.1.Method x3.1.Target x3.1.Code x3.1.Reason x3.1.Minor) x4.1 ([] : Bytes)), x5.1, x5.2)
    else
     (intarsiaref09_Answer (S_Start.mk x3.1.Method x3.1.Target x3.1.Code x3.1.Reason x3.1.Minor) x4.1 a1).bind fun x6 =>
     some ((S_Message.mk (S_Start.mk x3.1.Method x3.1.Target x3.1.Code x3.1.Reason x3.1.Minor) x4.1 ([] : Bytes)), x6.1, x6.2)
 else
  bif (x2.2 != (0 : Int)) then
   some ((S_Message.mk x2.1 ([] : List S_Field) ([] : Bytes)), (S_Body.mk (0 : Int) (0 : Int)), x2.2)
  else
   (intarsiaref07_Parse x1.2).bind fun x7 =>
   bif (x7.2 != (0 : Int)) then
    some ((S_Message.mk x2.1 x7.1 ([] : Bytes)), (S_Body.mk (0 : Int) (0 : Int)), x7.2)
   else
    bif a0 then
     (intarsiaref09_Request x2.1 x7.1).bind fun x8 =>
     some ((S_Message.mk x2.1 x7.1 ([] : Bytes)), x8.1, x8.2)
    else
     (intarsiaref09_Answer x2.1 x7.1 a1).bind fun x9 =>
     some ((S_Message.mk x2.1 x7.1 ([] : Bytes)), x9.1, x9.2)
noncomputable def intarsiaref10_head (a0 : Bool) (a1 : Bytes) (a2 : Bytes) : Option (S_Message × S_Body × Int) :=
 (gidx (decide ((IntKind.i64.wrap ((a2.length : Int) - (1 : Int))) > (0 : Int))) a2 (IntKind.i64.wrap ((IntKind.i64.wrap ((a2.length : Int) - (1 : Int))) - (1 : Int)))).bind fun x1 =>
 bif (bif (decide ((IntKind.i64.wrap ((a2.length : Int) - (1 : Int))) > (0 : Int))) then ((x1.toNat : Int) == (13 : Int)) else false) then
  bif ((IntKind.i64.wrap ((IntKind.i64.wrap ((a2.length : Int) - (1 : Int))) - (1 : Int))) == (0 : Int)) then
   some ((S_Message.mk (S_Start.mk ([] : Bytes) ([] : Bytes) (0 : Int) ([] : Bytes) (0 : Int)) ([] : List S_Field) ([] : Bytes)), (S_Body.mk (0 : Int) (0 : Int)), (30 : Int))
  else
   (slc a2 0 (IntKind.i64.wrap ((IntKind.i64.wrap ((a2.length : Int) - (1 : Int))) - (1 : Int)))).bind fun x2 =>
   (intarsiaref10_begin a0 a1 x2).bind fun x3 =>
   some (x3.1, x3.2.1, x3.2.2)
 else
  bif ((IntKind.i64.wrap ((a2.length : Int) - (1 : Int))) == (0 : Int)) then
   some ((S_Message.mk (S_Start.mk ([] : Bytes) ([] : Bytes) (0 : Int) ([] : Bytes) (0 : Int)) ([] : List S_Field) ([] : Bytes)), (S_Body.mk (0 : Int) (0 : Int)), (30 : Int))
  else
   (slc a2 0 (IntKind.i64.wrap ((a2.length : Int) - (1 : Int)))).bind fun x4 =>
   (intarsiaref10_begin a0 a1 x4).bind fun x5 =>
   some (x5.1, x5.2.1, x5.2.2)
noncomputable def intarsiaref08_Right_b1 (a0 : S_Chunked) (s1 : Int) : Option (Int ⊕ Bool) :=
 bif (decide (s1 < (a0.Line.length : Int))) then
  (idx a0.Line s1).bind fun x2 =>
  bif ((x2.toNat : Int) == (10 : Int)) then
   some (.inr false)
  else
   some (.inl (IntKind.i64.wrap (s1 + (1 : Int))))
 else
  bif (bif (bif (bif (bif (decide (a0.Stage < (0 : Int))) then true else (decide (a0.Stage > (4 : Int)))) then true else (decide (a0.Size < (0 : Int)))) then true else (decide (a0.Size > (20000 : Int)))) then true else (decide ((a0.Line.length : Int) > (200 : Int)))) then
   some (.inr false)
  else
   bif (a0.Stage == (1 : Int)) then
    some (.inr (bif (bif (decide (a0.Left > (0 : Int))) then (decide (a0.Left <= (IntKind.i64.wrap ((20000 : Int) - a0.Size)))) else false) then (a0.Line == ([] : Bytes)) else false))
   else
    some (.inr (bif (a0.Left == (0 : Int)) then (bif (decide (a0.Stage < (4 : Int))) then true else (a0.Line == ([] : Bytes))) else false))
noncomputable def intarsiaref08_Right (a0 : S_Chunked) : Option Bool :=
 loopO (intarsiaref08_Right_b1 a0) (0 : Int)
noncomputable def intarsiaref08_line_b1 (x : (Bytes × Int)) : Option ((Bytes × Int) ⊕ Bytes) :=
 match x with
 | (s4, s5) =>
  bif (decide (s5 < (s4.length : Int))) then
   (idx s4 s5).bind fun x6 =>
   bif ((x6.toNat : Int) == (59 : Int)) then
    (slc s4 0 s5).bind fun x7 =>
    some (.inl (x7, (IntKind.i64.wrap (s5 + (1 : Int)))))
   else
    some (.inl (s4, (IntKind.i64.wrap (s5 + (1 : Int)))))
  else
   some (.inr s4)
noncomputable def intarsiaref08_line_b2 (x : (Bytes × Int)) : Option ((Bytes × Int) ⊕ Bytes) :=
 match x with
 | (s11, s12) =>
  bif (decide (s12 < (s11.length : Int))) then
   (idx s11 s12).bind fun x13 =>
   bif ((x13.toNat : Int) == (59 : Int)) then
    (slc s11 0 s12).bind fun x14 =>
    some (.inl (x14, (IntKind.i64.wrap (s12 + (1 : Int)))))
   else
    some (.inl (s11, (IntKind.i64.wrap (s12 + (1 : Int)))))
  else
   some (.inr s11)
noncomputable def intarsiaref08_line (a0 : S_Chunked) : Option (S_Chunked × Int) :=
 (gidx (decide ((a0.Line.length : Int) > (0 : Int))) a0.Line (IntKind.i64.wrap ((a0.Line.length : Int) - (1 : Int)))).bind fun x1 =>
 bif (bif (decide ((a0.Line.length : Int) > (0 : Int))) then ((x1.toNat : Int) == (13 : Int)) else false) then
  (slc a0.Line 0 (IntKind.i64.wrap ((a0.Line.length : Int) - (1 : Int)))).bind fun x2 =>
  bif (bif (a0.Stage == (2 : Int)) then (!(x2 == ([] : Bytes))) else false) then
   some ((S_Chunked.mk a0.Stage ([] : Bytes) a0.Left a0.Size), (33 : Int))
  else
   bif (a0.Stage == (2 : Int)) then
    some ((S_Chunked.mk (0 : Int) ([] : Bytes) a0.Left a0.Size), (0 : Int))
   else
    bif (a0.Stage == (3 : Int)) then
     bif (x2 == ([] : Bytes)) then
      some ((S_Chunked.mk (4 : Int) ([] : Bytes) a0.Left a0.Size), (0 : Int))
     else
      some ((S_Chunked.mk a0.Stage ([] : Bytes) a0.Left a0.Size), (0 : Int))
    else
     (loopO intarsiaref08_line_b1 (x2, (0 : Int)) : Option Bytes).bind fun j3 =>
     (intarsiaref03_Trim j3).bind fun x8 =>
     (intarsiaref02_Read x8 (16 : Int)).bind fun x9 =>
     bif (x9.2 == (10 : Int)) then
      some ((S_Chunked.mk a0.Stage ([] : Bytes) a0.Left a0.Size), (33 : Int))
     else
      bif (bif (x9.2 != (0 : Int)) then true else (decide (x9.1 > (IntKind.u64.wrap (IntKind.i64.wrap ((20000 : Int) - a0.Size)))))) then
       some ((S_Chunked.mk a0.Stage ([] : Bytes) a0.Left a0.Size), (2 : Int))
      else
       bif (x9.1 == (0 : Int)) then
        some ((S_Chunked.mk (3 : Int) ([] : Bytes) (IntKind.i64.wrap x9.1) a0.Size), (0 : Int))
       else
        some ((S_Chunked.mk (1 : Int) ([] : Bytes) (IntKind.i64.wrap x9.1) a0.Size), (0 : Int))
 else
  bif (bif (a0.Stage == (2 : Int)) then (!(a0.Line == ([] : Bytes))) else false) then
   some ((S_Chunked.mk a0.Stage ([] : Bytes) a0.Left a0.Size), (33 : Int))
  else
   bif (a0.Stage == (2 : Int)) then
    some ((S_Chunked.mk (0 : Int) ([] : Bytes) a0.Left a0.Size), (0 : Int))
   else
    bif (a0.Stage == (3 : Int)) then
     bif (a0.Line == ([] : Bytes)) then
      some ((S_Chunked.mk (4 : Int) ([] : Bytes) a0.Left a0.Size), (0 : Int))
     else
      some ((S_Chunked.mk a0.Stage ([] : Bytes) a0.Left a0.Size), (0 : Int))
    else
     (loopO intarsiaref08_line_b2 (a0.Line, (0 : Int)) : Option Bytes).bind fun j10 =>
     (intarsiaref03_Trim j10).bind fun x15 =>
     (intarsiaref02_Read x15 (16 : Int)).bind fun x16 =>
     bif (x16.2 == (10 : Int)) then
      some ((S_Chunked.mk a0.Stage ([] : Bytes) a0.Left a0.Size), (33 : Int))
     else
      bif (bif (x16.2 != (0 : Int)) then true else (decide (x16.1 > (IntKind.u64.wrap (IntKind.i64.wrap ((20000 : Int) - a0.Size)))))) then
       some ((S_Chunked.mk a0.Stage ([] : Bytes) a0.Left a0.Size), (2 : Int))
      else
       bif (x16.1 == (0 : Int)) then
        some ((S_Chunked.mk (3 : Int) ([] : Bytes) (IntKind.i64.wrap x16.1) a0.Size), (0 : Int))
       else
        some ((S_Chunked.mk (1 : Int) ([] : Bytes) (IntKind.i64.wrap x16.1) a0.Size), (0 : Int))
noncomputable def intarsiaref08_Step (a0 : S_Chunked) (a1 : Int) : Option (S_Chunked × Bytes × Int) :=
 bif (a0.Stage == (1 : Int)) then
  bif ((IntKind.i64.wrap (a0.Left - (1 : Int))) == (0 : Int)) then
   some ((S_Chunked.mk (2 : Int) a0.Line (IntKind.i64.wrap (a0.Left - (1 : Int))) (IntKind.i64.wrap (a0.Size + (1 : Int)))), ([u8 a1] : List UInt8), (0 : Int))
  else
   some ((S_Chunked.mk a0.Stage a0.Line (IntKind.i64.wrap (a0.Left - (1 : Int))) (IntKind.i64.wrap (a0.Size + (1 : Int)))), ([u8 a1] : List UInt8), (0 : Int))
 else
  bif (a1 == (10 : Int)) then
   (intarsiaref08_line a0).bind fun x1 =>
   some (x1.1, ([] : Bytes), x1.2)
  else
   bif ((a0.Line.length : Int) == (200 : Int)) then
    some (a0, ([] : Bytes), (33 : Int))
   else
    (cat a0.Line ([u8 a1] : List UInt8)).bind fun x2 =>
    some ((S_Chunked.mk a0.Stage x2 a0.Left a0.Size), ([] : Bytes), (0 : Int))
noncomputable def intarsiaref08_Feed_b1 (a1 : Bytes) (x : (Bytes × Int × S_Chunked)) : Option ((Bytes × Int × S_Chunked) ⊕ (S_Chunked × Bytes × Int × Int)) :=
 match x with
 | (s2, s3, s4) =>
  bif (bif (decide (s3 < (a1.length : Int))) then (s4.Stage != (4 : Int)) else false) then
   (idx a1 s3).bind fun x5 =>
   (intarsiaref08_Step s4 (x5.toNat : Int)).bind fun x6 =>
   bif (x6.2.2 != (0 : Int)) then
    some (.inr ((S_Chunked.mk (0 : Int) ([] : Bytes) (0 : Int) (0 : Int)), ([] : Bytes), (0 : Int), x6.2.2))
   else
    (cat s2 x6.2.1).bind fun x7 =>
    some (.inl (x7, (IntKind.i64.wrap (s3 + (1 : Int))), x6.1))
  else
   some (.inr (s4, s2, s3, (0 : Int)))
noncomputable def intarsiaref08_Feed (a0 : S_Chunked) (a1 : Bytes) : Option (S_Chunked × Bytes × Int × Int) :=
 (intarsiaref08_Right a0).bind fun x1 =>
 bif (!x1) then
  some ((S_Chunked.mk (0 : Int) ([] : Bytes) (0 : Int) (0 : Int)), ([] : Bytes), (0 : Int), (1 : Int))
 else
  loopO (intarsiaref08_Feed_b1 a1) (([] : Bytes), (0 : Int), a0)
noncomputable def intarsiaref10_body (a0 : S_intarsiaref10_T) (a1 : S_Message) (a2 : S_Body) : Option S_intarsiaref10_T :=
 bif (a2.Kind == (1 : Int)) then
  bif (decide ((a0.Left.length : Int) ≥ a2.Size)) then
   (slc a0.Left 0 a2.Size).bind fun x1 =>
   bif (a0.Bad != (0 : Int)) then
    some (S_intarsiaref10_T.mk a0.Out a0.Left a0.In a0.Last a2.Kind a0.Bad)
   else
    bif a0.In then
     some (S_intarsiaref10_T.mk a0.Out ([] : Bytes) a0.In (S_Message.mk a1.Start a1.Fields x1) a2.Kind a0.Bad)
    else
     (app 104 a0.Out ([(S_Message.mk a1.Start a1.Fields x1)] : List S_Message)).bind fun x2 =>
     (slc a0.Left a2.Size (a0.Left.length : Int)).bind fun x3 =>
     some (S_intarsiaref10_T.mk x2 x3 a0.In a0.Last a2.Kind a0.Bad)
  else
   bif (a0.Bad != (0 : Int)) then
    some (S_intarsiaref10_T.mk a0.Out a0.Left true a0.Last a2.Kind a0.Bad)
   else
    some (S_intarsiaref10_T.mk a0.Out ([] : Bytes) true (S_Message.mk a1.Start a1.Fields a0.Left) a2.Kind a0.Bad)
 else
  bif (a2.Kind == (2 : Int)) then
   (intarsiaref08_Feed (S_Chunked.mk (0 : Int) ([] : Bytes) (0 : Int) (0 : Int)) a0.Left).bind fun x4 =>
   bif (x4.2.2.2 != (0 : Int)) then
    some (S_intarsiaref10_T.mk a0.Out a0.Left (x4.1.Stage != (4 : Int)) a0.Last a2.Kind x4.2.2.2)
   else
    bif (x4.1.Stage != (4 : Int)) then
     some (S_intarsiaref10_T.mk a0.Out ([] : Bytes) (x4.1.Stage != (4 : Int)) (S_Message.mk a1.Start a1.Fields x4.2.1) a2.Kind x4.2.2.2)
    else
     (app 104 a0.Out ([(S_Message.mk a1.Start a1.Fields x4.2.1)] : List S_Message)).bind fun x5 =>
     (slc a0.Left x4.2.2.1 (a0.Left.length : Int)).bind fun x6 =>
     some (S_intarsiaref10_T.mk x5 x6 (x4.1.Stage != (4 : Int)) a0.Last a2.Kind x4.2.2.2)
  else
   bif (a2.Kind == (3 : Int)) then
    bif (decide ((a0.Left.length : Int) > (20000 : Int))) then
     bif ((2 : Int) != (0 : Int)) then
      some (S_intarsiaref10_T.mk a0.Out a0.Left true a0.Last a2.Kind (2 : Int))
     else
      some (S_intarsiaref10_T.mk a0.Out ([] : Bytes) true (S_Message.mk a1.Start a1.Fields a0.Left) a2.Kind (2 : Int))
    else
     bif (a0.Bad != (0 : Int)) then
      some (S_intarsiaref10_T.mk a0.Out a0.Left true a0.Last a2.Kind a0.Bad)
     else
      some (S_intarsiaref10_T.mk a0.Out ([] : Bytes) true (S_Message.mk a1.Start a1.Fields a0.Left) a2.Kind a0.Bad)
   else
    bif (a0.Bad != (0 : Int)) then
     some (S_intarsiaref10_T.mk a0.Out a0.Left a0.In a0.Last a2.Kind a0.Bad)
    else
     bif a0.In then
      some (S_intarsiaref10_T.mk a0.Out ([] : Bytes) a0.In a1 a2.Kind a0.Bad)
     else
      (app 104 a0.Out ([a1] : List S_Message)).bind fun x7 =>
      (slc a0.Left (0 : Int) (a0.Left.length : Int)).bind fun x8 =>
      some (S_intarsiaref10_T.mk x7 x8 a0.In a0.Last a2.Kind a0.Bad)
noncomputable def intarsiaref10_All_b1 (a0 : Bool) (a1 : Bytes) (s1 : S_intarsiaref10_T) : Option (S_intarsiaref10_T ⊕ S_intarsiaref10_T) :=
 bif (bif (s1.Bad == (0 : Int)) then (!s1.In) else false) then
  bif a0 then
   (intarsiaref10_skip s1.Left).bind fun x2 =>
   (intarsiaref07_End x2).bind fun x3 =>
   bif (x3.2 == (3 : Int)) then
    some (.inr (S_intarsiaref10_T.mk s1.Out x2 s1.In s1.Last s1.Kind s1.Bad))
   else
    bif (x3.2 != (0 : Int)) then
     some (.inr (S_intarsiaref10_T.mk s1.Out x2 s1.In s1.Last s1.Kind x3.2))
    else
     (slc x2 0 x3.1).bind fun x4 =>
     (intarsiaref10_head a0 a1 x4).bind fun x5 =>
     (slc x2 x3.1 (x2.length : Int)).bind fun x6 =>
     bif (bif (x5.2.2 == (0 : Int)) then (bif a0 then true else (decide (x5.1.Start.Code ≥ (200 : Int)))) else false) then
      (intarsiaref10_body (S_intarsiaref10_T.mk s1.Out x6 s1.In s1.Last s1.Kind x5.2.2) x5.1 x5.2.1).bind fun x7 =>
      some (.inl x7)
     else
      some (.inl (S_intarsiaref10_T.mk s1.Out x6 s1.In s1.Last s1.Kind x5.2.2))
  else
   (intarsiaref07_End s1.Left).bind fun x8 =>
   bif (x8.2 == (3 : Int)) then
    some (.inr s1)
   else
    bif (x8.2 != (0 : Int)) then
     some (.inr (S_intarsiaref10_T.mk s1.Out s1.Left s1.In s1.Last s1.Kind x8.2))
    else
     (slc s1.Left 0 x8.1).bind fun x9 =>
     (intarsiaref10_head a0 a1 x9).bind fun x10 =>
     (slc s1.Left x8.1 (s1.Left.length : Int)).bind fun x11 =>
     bif (bif (x10.2.2 == (0 : Int)) then (bif a0 then true else (decide (x10.1.Start.Code ≥ (200 : Int)))) else false) then
      (intarsiaref10_body (S_intarsiaref10_T.mk s1.Out x11 s1.In s1.Last s1.Kind x10.2.2) x10.1 x10.2.1).bind fun x12 =>
      some (.inl x12)
     else
      some (.inl (S_intarsiaref10_T.mk s1.Out x11 s1.In s1.Last s1.Kind x10.2.2))
 else
  some (.inr s1)
noncomputable def intarsiaref10_All (a0 : Bool) (a1 : Bytes) (a2 : Bytes) : Option S_intarsiaref10_T :=
 loopO (intarsiaref10_All_b1 a0 a1) (S_intarsiaref10_T.mk ([] : List S_Message) a2 false (S_Message.mk (S_Start.mk ([] : Bytes) ([] : Bytes) (0 : Int) ([] : Bytes) (0 : Int)) ([] : List S_Field) ([] : Bytes)) (0 : Int) (0 : Int))
noncomputable def intarsiaref04_Like_b1 (a0 : (List S_Field)) (a1 : (List S_Field)) (s1 : Int) : Option (Int ⊕ Bool) :=
 bif (decide (s1 < (a0.length : Int))) then
  (idx a0 s1).bind fun x2 =>
  (idx a1 s1).bind fun x3 =>
  bif (!((x2.Name == x3.Name) && ((x2.Value == x3.Value) && true))) then
   some (.inr false)
  else
   some (.inl (IntKind.i64.wrap (s1 + (1 : Int))))
 else
  some (.inr true)
noncomputable def intarsiaref04_Like (a0 : (List S_Field)) (a1 : (List S_Field)) : Option Bool :=
 bif ((a0.length : Int) != (a1.length : Int)) then
  some false
 else
  loopO (intarsiaref04_Like_b1 a0 a1) (0 : Int)
noncomputable def intarsiaref10_Like (a0 : S_Message) (a1 : S_Message) : Option Bool :=
 (gcall ((a0.Start.Method == a1.Start.Method) && ((a0.Start.Target == a1.Start.Target) && ((a0.Start.Code == a1.Start.Code) && ((a0.Start.Reason == a1.Start.Reason) && ((a0.Start.Minor == a1.Start.Minor) && true))))) (intarsiaref04_Like a0.Fields a1.Fields)).bind fun x1 =>
 some (bif (bif ((a0.Start.Method == a1.Start.Method) && ((a0.Start.Target == a1.Start.Target) && ((a0.Start.Code == a1.Start.Code) && ((a0.Start.Reason == a1.Start.Reason) && ((a0.Start.Minor == a1.Start.Minor) && true))))) then x1 else false) then (a0.Body == a1.Body) else false)
noncomputable def intarsiaref10_Same_b1 (a0 : (List S_Message)) (a1 : (List S_Message)) (s1 : Int) : Option (Int ⊕ Bool) :=
 bif (decide (s1 < (a0.length : Int))) then
  (idx a0 s1).bind fun x2 =>
  (idx a1 s1).bind fun x3 =>
  (intarsiaref10_Like x2 x3).bind fun x4 =>
  bif (!x4) then
   some (.inr false)
  else
   some (.inl (IntKind.i64.wrap (s1 + (1 : Int))))
 else
  some (.inr true)
noncomputable def intarsiaref10_Same (a0 : (List S_Message)) (a1 : (List S_Message)) : Option Bool :=
 bif ((a0.length : Int) != (a1.length : Int)) then
  some false
 else
  loopO (intarsiaref10_Same_b1 a0 a1) (0 : Int)
noncomputable def intarsialaw10_alive : Option Bool :=
 (wire_New true ([] : Bytes)).bind fun x1 =>
 (wire_Feed x1 ([71, 69, 84, 32, 47, 32, 72, 84, 84, 80, 47, 49, 46, 49, 13, 10, 13, 10] : Bytes)).bind fun x2 =>
 (gidx (bif (x2.2.2 == (0 : Int)) then ((x2.2.1.length : Int) == (1 : Int)) else false) x2.2.1 (0 : Int)).bind fun x3 =>
 some (bif (bif (x2.2.2 == (0 : Int)) then ((x2.2.1.length : Int) == (1 : Int)) else false) then ((x3.Start.Method == ([71, 69, 84] : Bytes)) && ((x3.Start.Target == ([47] : Bytes)) && ((x3.Start.Code == (0 : Int)) && ((x3.Start.Reason == ([] : Bytes)) && ((x3.Start.Minor == (1 : Int)) && true))))) else false)
noncomputable def wire_Close (a0 : S_Reader) : Option ((List S_Message) × Int) :=
 (wire_Right a0).bind fun x1 =>
 bif (!x1) then
  some (([] : List S_Message), (1 : Int))
 else
  bif (a0.Bad != (0 : Int)) then
   some (([] : List S_Message), a0.Bad)
  else
   bif (bif a0.In then (a0.Body.Kind == (3 : Int)) else false) then
    some (([a0.Head] : List S_Message), (0 : Int))
   else
    bif (bif a0.In then true else (!(a0.Buf == ([] : Bytes)))) then
     some (([] : List S_Message), (3 : Int))
    else
     some (([] : List S_Message), (0 : Int))
noncomputable def intarsiaref10_LikeReader (a0 : S_Reader) (a1 : S_Reader) : Option Bool :=
 (gcall (bif (bif (bif (a0.Asks == a1.Asks) then (a0.Method == a1.Method) else false) then (a0.Buf == a1.Buf) else false) then (a0.In == a1.In) else false) (intarsiaref10_Like a0.Head a1.Head)).bind fun x1 =>
 some (bif (bif (bif (bif (bif (bif (bif (a0.Asks == a1.Asks) then (a0.Method == a1.Method) else false) then (a0.Buf == a1.Buf) else false) then (a0.In == a1.In) else false) then x1 else false) then ((a0.Body.Kind == a1.Body.Kind) && ((a0.Body.Size == a1.Body.Size) && true)) else false) then ((a0.Chunk.Stage == a1.Chunk.Stage) && ((a0.Chunk.Line == a1.Chunk.Line) && ((a0.Chunk.Left == a1.Chunk.Left) && ((a0.Chunk.Size == a1.Chunk.Size) && true)))) else false) then (a0.Bad == a1.Bad) else false)
noncomputable def intarsialaw10_WireReads (a0 : Bool) (a1 : Bytes) (a2 : Bytes) : Option Bool :=
 (slc a1 0 (imin (a1.length : Int) (20 : Int))).bind fun x1 =>
 (slc a2 0 (imin (a2.length : Int) (9000 : Int))).bind fun x2 =>
 (wire_New a0 x1).bind fun x3 =>
 (wire_Feed x3 x2).bind fun x4 =>
 (intarsiaref10_All a0 x1 x2).bind fun x5 =>
 (gcall (!(x4.2.2 != (0 : Int))) (intarsiaref10_Same x4.2.1 x5.Out)).bind fun x6 =>
 (gcall (!(bif (bif (bif (bif (x4.2.2 != (0 : Int)) then true else (!x6)) then true else (x4.1.Bad != x5.Bad)) then true else (!(x4.1.Asks == a0))) then true else (!(x4.1.Method == x1)))) (wire_Right x4.1)).bind fun x7 =>
 (gcall (!(bif (bif (bif (bif (bif (x4.2.2 != (0 : Int)) then true else (!x6)) then true else (x4.1.Bad != x5.Bad)) then true else (!(x4.1.Asks == a0))) then true else (!(x4.1.Method == x1))) then true else (!x7))) intarsialaw10_alive).bind fun x8 =>
 bif (bif (bif (bif (bif (bif (bif (x4.2.2 != (0 : Int)) then true else (!x6)) then true else (x4.1.Bad != x5.Bad)) then true else (!(x4.1.Asks == a0))) then true else (!(x4.1.Method == x1))) then true else (!x7)) then true else (!x8)) then
  some false
 else
  (wire_Close x4.1).bind fun x9 =>
  bif (x5.Bad != (0 : Int)) then
   (intarsiaref10_LikeReader x4.1 (S_Reader.mk a0 x1 ([] : Bytes) false (S_Message.mk (S_Start.mk ([] : Bytes) ([] : Bytes) (0 : Int) ([] : Bytes) (0 : Int)) ([] : List S_Field) ([] : Bytes)) (S_Body.mk (0 : Int) (0 : Int)) (S_Chunked.mk (0 : Int) ([] : Bytes) (0 : Int) (0 : Int)) x5.Bad)).bind fun x10 =>
   some (bif (bif x10 then (x9.2 == x5.Bad) else false) then ((x9.1.length : Int) == (0 : Int)) else false)
  else
   (gcall (!(bif (!(x4.1.Buf == x5.Left)) then true else (!(x4.1.In == x5.In)))) (intarsiaref10_Like x4.1.Head x5.Last)).bind fun x11 =>
   bif (bif (bif (!(x4.1.Buf == x5.Left)) then true else (!(x4.1.In == x5.In))) then true else (!x11)) then
    some false
   else
    bif (bif x5.In then (x5.Kind == (3 : Int)) else false) then
     bif (x9.2 == (0 : Int)) then
      (gcall (x9.2 == (0 : Int)) (intarsiaref10_Same x9.1 ([x5.Last] : List S_Message))).bind fun x12 =>
      some (bif (x9.2 == (0 : Int)) then x12 else false)
     else
      none
    else
     bif (bif x5.In then true else (!(x5.Left == ([] : Bytes)))) then
      some (bif (x9.2 == (3 : Int)) then ((x9.1.length : Int) == (0 : Int)) else false)
     else
      some (bif (x9.2 == (0 : Int)) then ((x9.1.length : Int) == (0 : Int)) else false)
end Go.Proofs.YtdnjgojkpfbimaaGreatDoor
