/-
  The plain images of the functions, written by a program of mine (gen.py) off the translation.
-/
import Derived.Test.YtommkfooolabhaaGreatDoorGi3
import Derived.Test.YtommkfooolabhaaGreatDoorIh1
import Derived.Test.YtommkfooolabhaaGreatDoorGi1
import Derived.Test.YtommkfooolabhaaGreatDoorGd1
namespace Go.Proofs.YtommkfooolabhaaGreatDoor
open Go Go.Pm
set_option linter.unusedSimpArgs false
set_option linter.unusedVariables false
structure S_Fetch where
 Id : Int
 Origin : (List UInt8)
 Bytes : (List UInt8)
 Method : (List UInt8)
 Again : Bool
 Due : Int
 Tried : Bool
instance : Inhabited S_Fetch := ⟨⟨default, default, default, default, default, default, default⟩⟩
def S_Fetch.cells (x : S_Fetch) : List AV := [AV.int .i64 x.Id, AV.str x.Origin, AV.str x.Bytes, AV.str x.Method, AV.bool x.Again, AV.int .i64 x.Due, AV.bool x.Tried]
def S_Fetch.av (x : S_Fetch) : AV := .agg (S_Fetch.cells x)
structure S_Start where
 Method : Bytes
 Target : Bytes
 Code : Int
 Reason : Bytes
 Minor : Int
instance : Inhabited S_Start := ⟨⟨default, default, default, default, default⟩⟩
def S_Start.cells (x : S_Start) : List AV := [AV.str x.Method, AV.str x.Target, AV.int .i64 x.Code, AV.str x.Reason, AV.int .i64 x.Minor]
def S_Start.av (x : S_Start) : AV := .agg (S_Start.cells x)
structure S_Message where
 Start : S_Start
 Fields : (List S_Field)
 Body : Bytes
instance : Inhabited S_Message := ⟨⟨default, default, default⟩⟩
def S_Message.cells (x : S_Message) : List AV := [AV.str x.Start.Method, AV.str x.Start.Target, AV.int .i64 x.Start.Code, AV.str x.Start.Reason, AV.int .i64 x.Start.Minor, AV.list 2 (x.Fields.map S_Field.av), AV.str x.Body]
def S_Message.av (x : S_Message) : AV := .agg (S_Message.cells x)
structure S_Body where
 Kind : Int
 Size : Int
instance : Inhabited S_Body := ⟨⟨default, default⟩⟩
def S_Body.cells (x : S_Body) : List AV := [AV.int .i64 x.Kind, AV.int .i64 x.Size]
def S_Body.av (x : S_Body) : AV := .agg (S_Body.cells x)
structure S_Chunked where
 Stage : Int
 Line : Bytes
 Left : Int
 Size : Int
instance : Inhabited S_Chunked := ⟨⟨default, default, default, default⟩⟩
def S_Chunked.cells (x : S_Chunked) : List AV := [AV.int .i64 x.Stage, AV.str x.Line, AV.int .i64 x.Left, AV.int .i64 x.Size]
def S_Chunked.av (x : S_Chunked) : AV := .agg (S_Chunked.cells x)
structure S_Reader where
 Asks : Bool
 Method : Bytes
 Buf : Bytes
 In : Bool
 Head : S_Message
 Body : S_Body
 Chunk : S_Chunked
 Bad : Int
instance : Inhabited S_Reader := ⟨⟨default, default, default, default, default, default, default, default⟩⟩
def S_Reader.cells (x : S_Reader) : List AV := [AV.bool x.Asks, AV.str x.Method, AV.str x.Buf, AV.bool x.In, AV.str x.Head.Start.Method, AV.str x.Head.Start.Target, AV.int .i64 x.Head.Start.Code, AV.str x.Head.Start.Reason, AV.int .i64 x.Head.Start.Minor, AV.list 2 (x.Head.Fields.map S_Field.av), AV.str x.Head.Body, AV.int .i64 x.Body.Kind, AV.int .i64 x.Body.Size, AV.int .i64 x.Chunk.Stage, AV.str x.Chunk.Line, AV.int .i64 x.Chunk.Left, AV.int .i64 x.Chunk.Size, AV.int .i64 x.Bad]
def S_Reader.av (x : S_Reader) : AV := .agg (S_Reader.cells x)
structure S_Conn where
 Id : Int
 Origin : Bytes
 Fetch : S_Fetch
 Reader : S_Reader
 Got : Bool
 Used : Int
instance : Inhabited S_Conn := ⟨⟨default, default, default, default, default, default⟩⟩
def S_Conn.cells (x : S_Conn) : List AV := [AV.int .i64 x.Id, AV.str x.Origin, AV.int .i64 x.Fetch.Id, AV.str x.Fetch.Origin, AV.str x.Fetch.Bytes, AV.str x.Fetch.Method, AV.bool x.Fetch.Again, AV.int .i64 x.Fetch.Due, AV.bool x.Fetch.Tried, AV.bool x.Reader.Asks, AV.str x.Reader.Method, AV.str x.Reader.Buf, AV.bool x.Reader.In, AV.str x.Reader.Head.Start.Method, AV.str x.Reader.Head.Start.Target, AV.int .i64 x.Reader.Head.Start.Code, AV.str x.Reader.Head.Start.Reason, AV.int .i64 x.Reader.Head.Start.Minor, AV.list 2 (x.Reader.Head.Fields.map S_Field.av), AV.str x.Reader.Head.Body, AV.int .i64 x.Reader.Body.Kind, AV.int .i64 x.Reader.Body.Size, AV.int .i64 x.Reader.Chunk.Stage, AV.str x.Reader.Chunk.Line, AV.int .i64 x.Reader.Chunk.Left, AV.int .i64 x.Reader.Chunk.Size, AV.int .i64 x.Reader.Bad, AV.bool x.Got, AV.int .i64 x.Used]
def S_Conn.av (x : S_Conn) : AV := .agg (S_Conn.cells x)
structure S_Up where
 Now : Int
 Next : Int
 Conns : (List S_Conn)
 Wait : (List S_Fetch)
instance : Inhabited S_Up := ⟨⟨default, default, default, default⟩⟩
def S_Up.cells (x : S_Up) : List AV := [AV.int .i64 x.Now, AV.int .i64 x.Next, AV.list 29 (x.Conns.map S_Conn.av), AV.list 7 (x.Wait.map S_Fetch.av)]
def S_Up.av (x : S_Up) : AV := .agg (S_Up.cells x)
structure S_Act where
 Kind : Int
 Conn : Int
 Origin : (List UInt8)
 Bytes : (List UInt8)
 Fetch : Int
 Answer : S_Message
 Bad : Int
instance : Inhabited S_Act := ⟨⟨default, default, default, default, default, default, default⟩⟩
def S_Act.cells (x : S_Act) : List AV := [AV.int .i64 x.Kind, AV.int .i64 x.Conn, AV.str x.Origin, AV.str x.Bytes, AV.int .i64 x.Fetch, AV.str x.Answer.Start.Method, AV.str x.Answer.Start.Target, AV.int .i64 x.Answer.Start.Code, AV.str x.Answer.Start.Reason, AV.int .i64 x.Answer.Start.Minor, AV.list 2 (x.Answer.Fields.map S_Field.av), AV.str x.Answer.Body, AV.int .i64 x.Bad]
def S_Act.av (x : S_Act) : AV := .agg (S_Act.cells x)
structure S_wire_reading where
 Reader : S_Reader
 out : (List S_Message)
instance : Inhabited S_wire_reading := ⟨⟨default, default⟩⟩
def S_wire_reading.cells (x : S_wire_reading) : List AV := [AV.bool x.Reader.Asks, AV.str x.Reader.Method, AV.str x.Reader.Buf, AV.bool x.Reader.In, AV.str x.Reader.Head.Start.Method, AV.str x.Reader.Head.Start.Target, AV.int .i64 x.Reader.Head.Start.Code, AV.str x.Reader.Head.Start.Reason, AV.int .i64 x.Reader.Head.Start.Minor, AV.list 2 (x.Reader.Head.Fields.map S_Field.av), AV.str x.Reader.Head.Body, AV.int .i64 x.Reader.Body.Kind, AV.int .i64 x.Reader.Body.Size, AV.int .i64 x.Reader.Chunk.Stage, AV.str x.Reader.Chunk.Line, AV.int .i64 x.Reader.Chunk.Left, AV.int .i64 x.Reader.Chunk.Size, AV.int .i64 x.Reader.Bad, AV.list 7 (x.out.map S_Message.av)]
def S_wire_reading.av (x : S_wire_reading) : AV := .agg (S_wire_reading.cells x)
structure S_chunk_state where
 Chunked : S_Chunked
 bad : Int
instance : Inhabited S_chunk_state := ⟨⟨default, default⟩⟩
def S_chunk_state.cells (x : S_chunk_state) : List AV := [AV.int .i64 x.Chunked.Stage, AV.str x.Chunked.Line, AV.int .i64 x.Chunked.Left, AV.int .i64 x.Chunked.Size, AV.int .i64 x.bad]
def S_chunk_state.av (x : S_chunk_state) : AV := .agg (S_chunk_state.cells x)
noncomputable def intarsialaw22_few (a0 : S_Fetch) : Option S_Fetch :=
 (slc a0.Origin 0 (imin (a0.Origin.length : Int) (110 : Int))).bind fun x1 =>
 (slc a0.Bytes 0 (imin (a0.Bytes.length : Int) (400 : Int))).bind fun x2 =>
 (slc a0.Method 0 (imin (a0.Method.length : Int) (20 : Int))).bind fun x3 =>
 some (S_Fetch.mk a0.Id x1 x2 x3 a0.Again a0.Due a0.Tried)
noncomputable def upstream_to (a0 : Bytes) : Option Bytes :=
 some a0
noncomputable def upstream_count_b1 (a0 : (List S_Conn)) (a1i : S_Conn -> Option Bool) (x : (Int × Int)) : Option ((Int × Int) ⊕ Int) :=
 match x with
 | (s2, s3) =>
  bif (decide (s3 < (a0.length : Int))) then
   (idx a0 s3).bind fun x4 =>
   (a1i x4).bind fun x5 =>
   bif x5 then
    some (.inl ((IntKind.i64.wrap (s2 + (1 : Int))), (IntKind.i64.wrap (s3 + (1 : Int)))))
   else
    some (.inl (s2, (IntKind.i64.wrap (s3 + (1 : Int)))))
  else
   some (.inr s2)
noncomputable def upstream_count (a0 : (List S_Conn)) (a1i : S_Conn -> Option Bool) : Option Int :=
 (loopO (upstream_count_b1 a0 a1i) ((0 : Int), (0 : Int)) : Option Int).bind fun j1 =>
 some j1
noncomputable def upstream_idle (a0 : S_Conn) : Option Bool :=
 some ((a0.Fetch.Id == (0 : Int)) && ((a0.Fetch.Origin == ([] : Bytes)) && ((a0.Fetch.Bytes == ([] : Bytes)) && ((a0.Fetch.Method == ([] : Bytes)) && ((a0.Fetch.Again == false) && ((a0.Fetch.Due == (0 : Int)) && ((a0.Fetch.Tried == false) && true)))))))
noncomputable def upstream_free_1 (a0 : S_Conn) (c0i : S_Conn -> Option Bool) : Option Bool :=
 (c0i a0).bind fun x1 =>
 (gcall x1 (upstream_idle a0)).bind fun x2 =>
 some (bif x1 then x2 else false)
noncomputable def upstream_to_1 (a0 : S_Conn) (c0 : Bytes) : Option Bool :=
 some (a0.Origin == c0)
noncomputable def upstream_free (a0 : (List S_Conn)) (a1 : Bytes) : Option (Int × Int) :=
 (upstream_to a1).bind fun x1 =>
 (upstream_count a0 (fun x0 => upstream_free_1 x0 (fun x0 => upstream_to_1 x0 x1))).bind fun x2 =>
 (upstream_count a0 (fun x0 => upstream_to_1 x0 x1)).bind fun x3 =>
 some (x2, x3)
noncomputable def wire_empty (a0 : S_Message) : Option Bool :=
 some (bif (bif ((a0.Start.Method == ([] : Bytes)) && ((a0.Start.Target == ([] : Bytes)) && ((a0.Start.Code == (0 : Int)) && ((a0.Start.Reason == ([] : Bytes)) && ((a0.Start.Minor == (0 : Int)) && true))))) then ((a0.Fields.length : Int) == (0 : Int)) else false) then (a0.Body == ([] : Bytes)) else false)
noncomputable def wire_bare (a0 : S_Reader) : Option Bool :=
 (gcall (bif (a0.Buf == ([] : Bytes)) then (!a0.In) else false) (wire_empty a0.Head)).bind fun x1 =>
 some (bif (bif (bif (bif (a0.Buf == ([] : Bytes)) then (!a0.In) else false) then x1 else false) then ((a0.Body.Kind == (0 : Int)) && ((a0.Body.Size == (0 : Int)) && true)) else false) then ((a0.Chunk.Stage == (0 : Int)) && ((a0.Chunk.Line == ([] : Bytes)) && ((a0.Chunk.Left == (0 : Int)) && ((a0.Chunk.Size == (0 : Int)) && true)))) else false)
noncomputable def stringslite_HasPrefix (a0 : Bytes) (a1 : Bytes) : Option Bool :=
 (gslc (decide ((a0.length : Int) ≥ (a1.length : Int))) a0 0 (a1.length : Int)).bind fun x1 =>
 some (bif (decide ((a0.length : Int) ≥ (a1.length : Int))) then (x1 == a1) else false)
noncomputable def strings_HasPrefix (a0 : Bytes) (a1 : Bytes) : Option Bool :=
 (stringslite_HasPrefix a0 a1).bind fun x1 =>
 some x1
noncomputable def start_target_1 (a0 : Int) : Option Bool :=
 (gcall (!(bif (decide (a0 <= (32 : Int))) then true else (decide (a0 > (126 : Int))))) (strings_IndexByte ([34, 35, 60, 62, 92, 94, 123, 124, 125, 96] : Bytes) a0)).bind fun x1 =>
 some (bif (bif (decide (a0 <= (32 : Int))) then true else (decide (a0 > (126 : Int)))) then true else (decide (x1 ≥ (0 : Int))))
noncomputable def start_target (a0 : Bytes) : Option Bool :=
 bif (a0 == ([42] : Bytes)) then
  some true
 else
  (strings_HasPrefix a0 ([47] : Bytes)).bind fun x1 =>
  (gcall (!x1) (strings_HasPrefix a0 ([104, 116, 116, 112, 58, 47, 47] : Bytes))).bind fun x2 =>
  (gcall (bif (bif x1 then true else x2) then (decide ((a0.length : Int) <= (500 : Int))) else false) (slices_ContainsFunc__byte_byte a0 (fun x0 => start_target_1 x0))).bind fun x3 =>
  some (bif (bif (bif x1 then true else x2) then (decide ((a0.length : Int) <= (500 : Int))) else false) then (!x3) else false)
noncomputable def start_Right_1 (a0 : Int) : Option Bool :=
 some (bif (bif (decide (a0 < (32 : Int))) then (a0 != (9 : Int)) else false) then true else (a0 == (127 : Int)))
noncomputable def start_Right (a0 : S_Start) : Option Bool :=
 bif (bif (a0.Minor != (0 : Int)) then (a0.Minor != (1 : Int)) else false) then
  some false
 else
  bif (a0.Code == (0 : Int)) then
   (gcall (a0.Reason == ([] : Bytes)) (text_Token a0.Method)).bind fun x1 =>
   (gcall (bif (bif (a0.Reason == ([] : Bytes)) then x1 else false) then (decide ((a0.Method.length : Int) <= (20 : Int))) else false) (start_target a0.Target)).bind fun x2 =>
   some (bif (bif (bif (a0.Reason == ([] : Bytes)) then x1 else false) then (decide ((a0.Method.length : Int) <= (20 : Int))) else false) then x2 else false)
  else
   (gcall (bif (bif (bif (bif (decide (a0.Code ≥ (100 : Int))) then (decide (a0.Code <= (599 : Int))) else false) then (a0.Method == ([] : Bytes)) else false) then (a0.Target == ([] : Bytes)) else false) then (decide ((a0.Reason.length : Int) <= (100 : Int))) else false) (text_Trim a0.Reason)).bind fun x3 =>
   (gcall (bif (bif (bif (bif (bif (decide (a0.Code ≥ (100 : Int))) then (decide (a0.Code <= (599 : Int))) else false) then (a0.Method == ([] : Bytes)) else false) then (a0.Target == ([] : Bytes)) else false) then (decide ((a0.Reason.length : Int) <= (100 : Int))) else false) then (x3 == a0.Reason) else false) (slices_ContainsFunc__byte_byte a0.Reason (fun x0 => start_Right_1 x0))).bind fun x4 =>
   some (bif (bif (bif (bif (bif (bif (decide (a0.Code ≥ (100 : Int))) then (decide (a0.Code <= (599 : Int))) else false) then (a0.Method == ([] : Bytes)) else false) then (a0.Target == ([] : Bytes)) else false) then (decide ((a0.Reason.length : Int) <= (100 : Int))) else false) then (x3 == a0.Reason) else false) then (!x4) else false)
noncomputable def table_named (a0 : Bytes) : Option Bytes :=
 some a0
noncomputable def table_keep_api_Field_b1 (a0 : (List S_Field)) (a1i : S_Field -> Option Bool) (x : ((List S_Field) × Int)) : Option (((List S_Field) × Int) ⊕ (List S_Field)) :=
 match x with
 | (s2, s3) =>
  bif (decide (s3 < (a0.length : Int))) then
   (idx a0 s3).bind fun x4 =>
   (a1i x4).bind fun x5 =>
   bif x5 then
    (app 32 s2 ([x4] : List S_Field)).bind fun x6 =>
    some (.inl (x6, (IntKind.i64.wrap (s3 + (1 : Int)))))
   else
    some (.inl (s2, (IntKind.i64.wrap (s3 + (1 : Int)))))
  else
   some (.inr s2)
noncomputable def table_keep_api_Field (a0 : (List S_Field)) (a1i : S_Field -> Option Bool) : Option (List S_Field) :=
 (loopO (table_keep_api_Field_b1 a0 a1i) (([] : List S_Field), (0 : Int)) : Option (List S_Field)).bind fun j1 =>
 some j1
noncomputable def text_Lower_b1 (a0 : Bytes) (x : (Int × (List UInt8))) : Option ((Int × (List UInt8)) ⊕ (List UInt8)) :=
 match x with
 | (s2, s3) =>
  bif (decide (s2 < (a0.length : Int))) then
   chk (0 <= s2 /\ s2 < (a0.length : Int)) <|
   (idx s3 s2).bind fun x5 =>
   bif (bif (decide ((x5.toNat : Int) ≥ (65 : Int))) then (decide ((x5.toNat : Int) <= (90 : Int))) else false) then
    chk (0 <= s2 /\ s2 < (a0.length : Int)) <|
    (seti s3 s2 (u8 (IntKind.u8.wrap ((IntKind.u8.wrap ((x5.toNat : Int) + (97 : Int))) - (65 : Int))))).bind fun x7 =>
    some (.inl ((IntKind.i64.wrap (s2 + (1 : Int))), x7))
   else
    some (.inl ((IntKind.i64.wrap (s2 + (1 : Int))), s3))
  else
   some (.inr s3)
noncomputable def text_Lower (a0 : Bytes) : Option Bytes :=
 (loopO (text_Lower_b1 a0) ((0 : Int), a0) : Option (List UInt8)).bind fun j1 =>
 chk (a0.length <= j1.length) <|
 some (j1.take a0.length)
noncomputable def text_Same (a0 : Bytes) (a1 : Bytes) : Option Bool :=
 (text_Lower a0).bind fun x1 =>
 (text_Lower a1).bind fun x2 =>
 some (x1 == x2)
noncomputable def table_named_1 (a0 : S_Field) (c0 : Bytes) : Option Bool :=
 (text_Same a0.Name c0).bind fun x1 =>
 some x1
noncomputable def table_All_b1 (x3 : (List S_Field)) (x : ((List Bytes) × Int)) : Option (((List Bytes) × Int) ⊕ (List Bytes)) :=
 match x with
 | (s4, s5) =>
  bif (decide (s5 < (x3.length : Int))) then
   (idx x3 s5).bind fun x6 =>
   (app 16 s4 ([x6.Value] : List Bytes)).bind fun x7 =>
   some (.inl (x7, (IntKind.i64.wrap (s5 + (1 : Int)))))
  else
   some (.inr s4)
noncomputable def table_All (a0 : (List S_Field)) (a1 : Bytes) : Option (List Bytes) :=
 ((table_named a1).bind fun x2 =>
 (table_keep_api_Field a0 (fun x0 => table_named_1 x0 x2)).bind fun x3 =>
 loopO (table_All_b1 x3) (([] : List Bytes), (0 : Int)) : Option (List Bytes)).bind fun j1 =>
 some j1
noncomputable def table_Joined (a0 : (List S_Field)) (a1 : Bytes) : Option (Bytes × Bool) :=
 (table_All a0 a1).bind fun x1 =>
 (strings_Join x1 ([44, 32] : Bytes)).bind fun x2 =>
 some (x2, (decide ((x1.length : Int) > (0 : Int))))
noncomputable def number_read_uint64_b1 (a0 : Bytes) (a1 : Int) (a2i : Int -> Option Int) (x : (Int × Bool × Int)) : Option ((Int × Bool × Int) ⊕ (Int × Int)) :=
 match x with
 | (s1, s2, s3) =>
  bif (decide (s3 < (a0.length : Int))) then
   (idx a0 s3).bind fun x4 =>
   (a2i (x4.toNat : Int)).bind fun x5 =>
   bif (decide (x5 ≥ a1)) then
    some (.inr ((0 : Int), (10 : Int)))
   else
    bif (decide ((IntKind.u64.wrap ((IntKind.u64.wrap (s1 * a1)) + x5)) > (1099511627776 : Int))) then
     some (.inl ((0 : Int), true, (IntKind.i64.wrap (s3 + (1 : Int)))))
    else
     some (.inl ((IntKind.u64.wrap ((IntKind.u64.wrap (s1 * a1)) + x5)), s2, (IntKind.i64.wrap (s3 + (1 : Int)))))
  else
   bif s2 then
    some (.inr ((0 : Int), (2 : Int)))
   else
    some (.inr (s1, (0 : Int)))
noncomputable def number_read_uint64 (a0 : Bytes) (a1 : Int) (a2i : Int -> Option Int) : Option (Int × Int) :=
 bif (a0 == ([] : Bytes)) then
  some ((0 : Int), (10 : Int))
 else
  loopO (number_read_uint64_b1 a0 a1 a2i) ((IntKind.u64.wrap (0 : Int)), false, (0 : Int))
noncomputable def number_ReadDec_1 (a0 : Int) : Option Int :=
 some (IntKind.u64.wrap (IntKind.u8.wrap (a0 - (48 : Int))))
noncomputable def number_ReadDec (a0 : Bytes) : Option (Int × Int) :=
 (number_read_uint64 a0 (10 : Int) (fun x0 => number_ReadDec_1 x0)).bind fun x1 =>
 some (x1.1, x1.2)
noncomputable def frame_say_b1 (x1 : (List Bytes)) (x : (Bool × Int × S_Body)) : Option ((Bool × Int × S_Body) ⊕ (S_Body × Int)) :=
 match x with
 | (s4, s5, s6) =>
  bif (decide (s5 < (x1.length : Int))) then
   (idx x1 s5).bind fun x7 =>
   (number_ReadDec x7).bind fun x8 =>
   bif (x8.2 == (2 : Int)) then
    bif (bif (x8.2 == (10 : Int)) then true else (bif (decide (s5 > (0 : Int))) then (!(((1 : Int) == s6.Kind) && (((-1 : Int) == s6.Size) && true))) else false)) then
     some (.inr ((S_Body.mk (0 : Int) (0 : Int)), (32 : Int)))
    else
     some (.inl ((bif (decide ((-1 : Int) < (0 : Int))) then true else (decide ((-1 : Int) > (20000 : Int)))), (IntKind.i64.wrap (s5 + (1 : Int))), (S_Body.mk (1 : Int) (-1 : Int))))
   else
    bif (bif (x8.2 == (10 : Int)) then true else (bif (decide (s5 > (0 : Int))) then (!(((1 : Int) == s6.Kind) && (((IntKind.i64.wrap x8.1) == s6.Size) && true))) else false)) then
     some (.inr ((S_Body.mk (0 : Int) (0 : Int)), (32 : Int)))
    else
     some (.inl ((bif (decide ((IntKind.i64.wrap x8.1) < (0 : Int))) then true else (decide ((IntKind.i64.wrap x8.1) > (20000 : Int)))), (IntKind.i64.wrap (s5 + (1 : Int))), (S_Body.mk (1 : Int) (IntKind.i64.wrap x8.1))))
  else
   bif s4 then
    some (.inr ((S_Body.mk (0 : Int) (0 : Int)), (2 : Int)))
   else
    some (.inr (s6, (0 : Int)))
noncomputable def frame_say (a0 : Int) (a1 : (List S_Field)) (a2 : S_Body) : Option (S_Body × Int) :=
 (table_All a1 ([67, 111, 110, 116, 101, 110, 116, 45, 76, 101, 110, 103, 116, 104] : Bytes)).bind fun x1 =>
 (table_Joined a1 ([84, 114, 97, 110, 115, 102, 101, 114, 45, 69, 110, 99, 111, 100, 105, 110, 103] : Bytes)).bind fun x2 =>
 bif x2.2 then
  (gcall (!(bif (decide ((x1.length : Int) > (0 : Int))) then true else (a0 == (0 : Int)))) (text_Same x2.1 ([99, 104, 117, 110, 107, 101, 100] : Bytes))).bind fun x3 =>
  bif (bif (bif (decide ((x1.length : Int) > (0 : Int))) then true else (a0 == (0 : Int))) then true else (!x3)) then
   some ((S_Body.mk (0 : Int) (0 : Int)), (32 : Int))
  else
   some ((S_Body.mk (2 : Int) (0 : Int)), (0 : Int))
 else
  loopO (frame_say_b1 x1) (false, (0 : Int), a2)
noncomputable def frame_Request (a0 : S_Start) (a1 : (List S_Field)) : Option (S_Body × Int) :=
 (start_Right a0).bind fun x1 =>
 (gcall (!(bif (!x1) then true else (a0.Code != (0 : Int)))) (table_Right a1)).bind fun x2 =>
 bif (bif (bif (!x1) then true else (a0.Code != (0 : Int))) then true else (!x2)) then
  some ((S_Body.mk (0 : Int) (0 : Int)), (1 : Int))
 else
  (frame_say a0.Minor a1 (S_Body.mk (0 : Int) (0 : Int))).bind fun x3 =>
  some (x3.1, x3.2)
noncomputable def frame_Answer (a0 : S_Start) (a1 : (List S_Field)) (a2 : Bytes) : Option (S_Body × Int) :=
 (start_Right a0).bind fun x1 =>
 (gcall (!(bif (!x1) then true else (a0.Code == (0 : Int)))) (table_Right a1)).bind fun x2 =>
 bif (bif (bif (!x1) then true else (a0.Code == (0 : Int))) then true else (!x2)) then
  some ((S_Body.mk (0 : Int) (0 : Int)), (1 : Int))
 else
  bif (bif (bif (bif (decide (a0.Code < (200 : Int))) then true else (a0.Code == (204 : Int))) then true else (a0.Code == (304 : Int))) then true else (a2 == ([72, 69, 65, 68] : Bytes))) then
   some ((S_Body.mk (0 : Int) (0 : Int)), (0 : Int))
  else
   (frame_say a0.Minor a1 (S_Body.mk (3 : Int) (0 : Int))).bind fun x3 =>
   some (x3.1, x3.2)
noncomputable def wire_body (a0 : S_Reader) : Option (S_Body × Int) :=
 bif a0.Asks then
  (frame_Request a0.Head.Start a0.Head.Fields).bind fun x1 =>
  some (x1.1, x1.2)
 else
  (frame_Answer a0.Head.Start a0.Head.Fields a0.Method).bind fun x2 =>
  some (x2.1, x2.2)
noncomputable def strings_Index (a0 : Bytes) (a1 : Bytes) : Option Int :=
 (stringslite_Index a0 a1).bind fun x1 =>
 some x1
noncomputable def strings_Contains (a0 : Bytes) (a1 : Bytes) : Option Bool :=
 (strings_Index a0 a1).bind fun x1 =>
 some (decide (x1 ≥ (0 : Int)))
noncomputable def chunk_Right (a0 : S_Chunked) : Option Bool :=
 (gcall (!(bif (bif (bif (bif (decide (a0.Stage < (0 : Int))) then true else (decide (a0.Stage > (4 : Int)))) then true else (decide (a0.Size < (0 : Int)))) then true else (decide (a0.Size > (20000 : Int)))) then true else (decide ((a0.Line.length : Int) > (200 : Int))))) (strings_Contains a0.Line ([10] : Bytes))).bind fun x1 =>
 bif (bif (bif (bif (bif (bif (decide (a0.Stage < (0 : Int))) then true else (decide (a0.Stage > (4 : Int)))) then true else (decide (a0.Size < (0 : Int)))) then true else (decide (a0.Size > (20000 : Int)))) then true else (decide ((a0.Line.length : Int) > (200 : Int)))) then true else x1) then
  some false
 else
  bif (a0.Stage == (1 : Int)) then
   some (bif (bif (decide (a0.Left ≥ (1 : Int))) then (decide (a0.Left <= (IntKind.i64.wrap ((20000 : Int) - a0.Size)))) else false) then (a0.Line == ([] : Bytes)) else false)
  else
   some (bif (a0.Left == (0 : Int)) then (bif (a0.Stage != (4 : Int)) then true else (a0.Line == ([] : Bytes))) else false)
noncomputable def wire_Right (a0 : S_Reader) : Option Bool :=
 bif (a0.Bad != (0 : Int)) then
  (wire_bare a0).bind fun x1 =>
  some x1
 else
  bif (!a0.In) then
   (wire_bare (S_Reader.mk a0.Asks a0.Method ([] : Bytes) a0.In a0.Head a0.Body a0.Chunk a0.Bad)).bind fun x2 =>
   some (bif x2 then (decide ((a0.Buf.length : Int) <= (4000 : Int))) else false)
  else
   (wire_body a0).bind fun x3 =>
   bif (bif (bif (bif (x3.2 != (0 : Int)) then true else (!((x3.1.Kind == a0.Body.Kind) && ((x3.1.Size == a0.Body.Size) && true)))) then true else (!(a0.Buf == ([] : Bytes)))) then true else (bif (x3.1.Kind != (2 : Int)) then (!((a0.Chunk.Stage == (0 : Int)) && ((a0.Chunk.Line == ([] : Bytes)) && ((a0.Chunk.Left == (0 : Int)) && ((a0.Chunk.Size == (0 : Int)) && true))))) else false)) then
    some false
   else
    bif (x3.1.Kind == (1 : Int)) then
     some (decide ((a0.Head.Body.length : Int) < x3.1.Size))
    else
     bif (x3.1.Kind == (2 : Int)) then
      (chunk_Right a0.Chunk).bind fun x4 =>
      some (bif (bif x4 then (a0.Chunk.Stage != (4 : Int)) else false) then (a0.Chunk.Size == (a0.Head.Body.length : Int)) else false)
     else
      bif (x3.1.Kind == (3 : Int)) then
       some (decide ((a0.Head.Body.length : Int) <= (20000 : Int)))
      else
       some false
noncomputable def upstream_fresh (a0 : S_Reader) : Option Bool :=
 (wire_Right a0).bind fun x1 =>
 some (bif (bif (bif x1 then (a0.Buf == ([] : Bytes)) else false) then (!a0.In) else false) then (a0.Bad == (0 : Int)) else false)
noncomputable def upstream_conn (a0 : S_Conn) : Option Bool :=
 bif (bif (bif (bif (decide ((a0.Origin.length : Int) < (1 : Int))) then true else (decide ((a0.Origin.length : Int) > (100 : Int)))) then true else (decide (a0.Used < (0 : Int)))) then true else (decide (a0.Used > (1000000000 : Int)))) then
  some false
 else
  (upstream_idle a0).bind fun x1 =>
  bif x1 then
   (gcall (bif (decide (a0.Used > (0 : Int))) then (!a0.Got) else false) (upstream_fresh a0.Reader)).bind fun x2 =>
   some (bif (bif (bif (bif (decide (a0.Used > (0 : Int))) then (!a0.Got) else false) then x2 else false) then (!a0.Reader.Asks) else false) then (a0.Reader.Method == ([] : Bytes)) else false)
  else
   (gcall (a0.Fetch.Origin == a0.Origin) (wire_Right a0.Reader)).bind fun x3 =>
   some (bif (bif (bif (bif (a0.Fetch.Origin == a0.Origin) then x3 else false) then (!a0.Reader.Asks) else false) then (a0.Reader.Method == a0.Fetch.Method) else false) then (a0.Reader.Bad == (0 : Int)) else false)
noncomputable def upstream_fetches_b1 (a0 : S_Up) (x : ((List S_Fetch) × Int)) : Option (((List S_Fetch) × Int) ⊕ (List S_Fetch)) :=
 match x with
 | (s3, s4) =>
  bif (decide (s4 < (a0.Conns.length : Int))) then
   (idx a0.Conns s4).bind fun x5 =>
   (upstream_idle x5).bind fun x6 =>
   bif (!x6) then
    (app 80 s3 ([x5.Fetch] : List S_Fetch)).bind fun x7 =>
    some (.inl (x7, (IntKind.i64.wrap (s4 + (1 : Int)))))
   else
    some (.inl (s3, (IntKind.i64.wrap (s4 + (1 : Int)))))
  else
   some (.inr s3)
noncomputable def upstream_fetches (a0 : S_Up) : Option (List S_Fetch) :=
 (slices_Clone_Fetch a0.Wait).bind fun x1 =>
 (loopO (upstream_fetches_b1 a0) (x1, (0 : Int)) : Option (List S_Fetch)).bind fun j2 =>
 some j2
noncomputable def upstream_fetch (a0 : S_Fetch) : Option Bool :=
 some (bif (bif (bif (bif (decide (a0.Id ≥ (1 : Int))) then (decide ((a0.Origin.length : Int) ≥ (1 : Int))) else false) then (decide ((a0.Origin.length : Int) <= (100 : Int))) else false) then (decide ((a0.Bytes.length : Int) ≥ (1 : Int))) else false) then (decide ((a0.Bytes.length : Int) <= (30000 : Int))) else false)
noncomputable def upstream_Right_b3 (a0 : S_Up) (x6 : (List S_Fetch)) (s8 : (List (Int × Bool))) (s11 : Int) : Option (Int ⊕ ((Int × (List (Int × Bool))) ⊕ ((Int × Int) ⊕ Bool))) :=
 bif (decide (s11 < (a0.Wait.length : Int))) then
  (idx a0.Wait s11).bind fun x12 =>
  (upstream_free a0.Conns x12.Origin).bind fun x13 =>
  bif (bif (decide (x13.1 > (0 : Int))) then true else (bif (decide (x13.2 < (4 : Int))) then (decide (a0.Next < (1000000000 : Int))) else false)) then
   some (.inr (.inr (.inr false)))
  else
   some (.inl (IntKind.i64.wrap (s11 + (1 : Int))))
 else
  chk (s8.length <= maxLen) <|
  some (.inr (.inr (.inr ((s8.length : Int) == (x6.length : Int)))))
noncomputable def upstream_Right_b2 (a0 : S_Up) (x6 : (List S_Fetch)) (x : (Int × (List (Int × Bool)))) : Option ((Int × (List (Int × Bool))) ⊕ ((Int × Int) ⊕ Bool)) :=
 match x with
 | (s7, s8) =>
  bif (decide (s7 < (x6.length : Int))) then
   (idx x6 s7).bind fun x9 =>
   (upstream_fetch x9).bind fun x10 =>
   bif (bif (bif (!x10) then true else (decide (x9.Due <= a0.Now))) then true else (decide ((IntKind.i64.wrap (x9.Due - a0.Now)) > (10 : Int)))) then
    some (.inr (.inr false))
   else
    some (.inl ((IntKind.i64.wrap (s7 + (1 : Int))), (mins s8 x9.Id true)))
  else
   loopO (upstream_Right_b3 a0 x6 s8) (0 : Int)
noncomputable def upstream_Right_b1 (a0 : S_Up) (x : (Int × Int)) : Option ((Int × Int) ⊕ Bool) :=
 match x with
 | (s1, s2) =>
  bif (decide (s2 < (a0.Conns.length : Int))) then
   (idx a0.Conns s2).bind fun x3 =>
   (upstream_free a0.Conns x3.Origin).bind fun x4 =>
   (upstream_conn x3).bind fun x5 =>
   bif (bif (bif (bif (bif (!x5) then true else (decide (x3.Id <= s1))) then true else (decide (x3.Id > a0.Next))) then true else (decide (x4.1 > (2 : Int)))) then true else (decide (x4.2 > (4 : Int)))) then
    some (.inr false)
   else
    some (.inl (x3.Id, (IntKind.i64.wrap (s2 + (1 : Int)))))
  else
   (upstream_fetches a0).bind fun x6 =>
   loopO (upstream_Right_b2 a0 x6) ((0 : Int), ([] : List (Int × Bool)))
noncomputable def upstream_Right (a0 : S_Up) : Option Bool :=
 bif (bif (bif (bif (bif (decide (a0.Now < (0 : Int))) then true else (decide (a0.Now > (1000000000 : Int)))) then true else (decide (a0.Next < (0 : Int)))) then true else (decide (a0.Next > (1000000000 : Int)))) then true else (decide ((a0.Wait.length : Int) > (16 : Int)))) then
  some false
 else
  loopO (upstream_Right_b1 a0) ((0 : Int), (0 : Int))
noncomputable def slices_IndexFunc__api_Fetch_api_Fetch_b1 (a0 : (List S_Fetch)) (a1i : S_Fetch -> Option Bool) (s1 : Int) : Option (Int ⊕ Int) :=
 bif (decide (s1 < (a0.length : Int))) then
  (idx a0 s1).bind fun x2 =>
  (a1i x2).bind fun x3 =>
  bif x3 then
   some (.inr s1)
  else
   some (.inl (IntKind.i64.wrap (s1 + (1 : Int))))
 else
  some (.inr (-1 : Int))
noncomputable def slices_IndexFunc__api_Fetch_api_Fetch (a0 : (List S_Fetch)) (a1i : S_Fetch -> Option Bool) : Option Int :=
 loopO (slices_IndexFunc__api_Fetch_api_Fetch_b1 a0 a1i) (0 : Int)
noncomputable def slices_ContainsFunc__api_Fetch_api_Fetch (a0 : (List S_Fetch)) (a1i : S_Fetch -> Option Bool) : Option Bool :=
 (slices_IndexFunc__api_Fetch_api_Fetch a0 a1i).bind fun x1 =>
 some (decide (x1 ≥ (0 : Int)))
noncomputable def upstream_Ask_1 (a0 : S_Fetch) (c0 : S_Fetch) : Option Bool :=
 some (a0.Id == c0.Id)
noncomputable def slices_IndexFunc__api_Conn_api_Conn_b1 (a0 : (List S_Conn)) (a1i : S_Conn -> Option Bool) (s1 : Int) : Option (Int ⊕ Int) :=
 bif (decide (s1 < (a0.length : Int))) then
  (idx a0 s1).bind fun x2 =>
  (a1i x2).bind fun x3 =>
  bif x3 then
   some (.inr s1)
  else
   some (.inl (IntKind.i64.wrap (s1 + (1 : Int))))
 else
  some (.inr (-1 : Int))
noncomputable def slices_IndexFunc__api_Conn_api_Conn (a0 : (List S_Conn)) (a1i : S_Conn -> Option Bool) : Option Int :=
 loopO (slices_IndexFunc__api_Conn_api_Conn_b1 a0 a1i) (0 : Int)
noncomputable def upstream_work_place_1 (a0 : S_Conn) (c0i : S_Conn -> Option Bool) : Option Bool :=
 (c0i a0).bind fun x1 =>
 (gcall x1 (upstream_idle a0)).bind fun x2 =>
 some (bif x1 then x2 else false)
noncomputable def wire_New (a0 : Bool) (a1 : Bytes) : Option S_Reader :=
 some (S_Reader.mk a0 a1 ([] : Bytes) false (S_Message.mk (S_Start.mk ([] : Bytes) ([] : Bytes) (0 : Int) ([] : Bytes) (0 : Int)) ([] : List S_Field) ([] : Bytes)) (S_Body.mk (0 : Int) (0 : Int)) (S_Chunked.mk (0 : Int) ([] : Bytes) (0 : Int) (0 : Int)) (0 : Int))
noncomputable def upstream_Ask (a0 : S_Up) (a1 : S_Fetch) : Option (S_Up × (List S_Act) × Int) :=
 (upstream_Right a0).bind fun x1 =>
 (gcall (!(!x1)) (upstream_fetch a1)).bind fun x2 =>
 (gcall (!(bif (bif (!x1) then true else (!x2)) then true else (decide (a0.Next ≥ (1000000000 : Int))))) (upstream_fetches a0)).bind fun x3 =>
 bif (!(bif (bif (!x1) then true else (!x2)) then true else (decide (a0.Next ≥ (1000000000 : Int))))) then
  (slices_ContainsFunc__api_Fetch_api_Fetch x3 (fun x0 => upstream_Ask_1 x0 a1)).bind fun x4 =>
  bif (bif (bif (bif (!x1) then true else (!x2)) then true else (decide (a0.Next ≥ (1000000000 : Int)))) then true else x4) then
   some ((S_Up.mk (0 : Int) (0 : Int) ([] : List S_Conn) ([] : List S_Fetch)), ([] : List S_Act), (1 : Int))
  else
   (chk2 (a0.Conns.length <= maxLen /\ a0.Conns.length * 336 <= 140737488355328)).bind fun x5 =>
   (chk2 (a0.Wait.length <= maxLen /\ a0.Wait.length * 80 <= 140737488355328)).bind fun x6 =>
   (upstream_to a1.Origin).bind fun x7 =>
   (slices_IndexFunc__api_Conn_api_Conn a0.Conns (fun x0 => upstream_work_place_1 x0 (fun x0 => upstream_to_1 x0 x7))).bind fun x8 =>
   bif (decide (x8 ≥ (0 : Int))) then
    chk (0 <= x8 /\ x8 < (a0.Conns.length : Int)) <|
    (wire_New false a1.Method).bind fun x10 =>
    (idx a0.Conns x8).bind fun x11 =>
    (idx (a0.Conns.set x8.toNat (S_Conn.mk x11.Id x11.Origin (S_Fetch.mk a1.Id a1.Origin a1.Bytes a1.Method a1.Again (IntKind.i64.wrap (a0.Now + (10 : Int))) false) x11.Reader x11.Got x11.Used)) x8).bind fun x12 =>
    (idx ((a0.Conns.set x8.toNat (S_Conn.mk x11.Id x11.Origin (S_Fetch.mk a1.Id a1.Origin a1.Bytes a1.Method a1.Again (IntKind.i64.wrap (a0.Now + (10 : Int))) false) x11.Reader x11.Got x11.Used)).set x8.toNat (S_Conn.mk x12.Id x12.Origin x12.Fetch x10 x12.Got x12.Used)) x8).bind fun x13 =>
    (idx (((a0.Conns.set x8.toNat (S_Conn.mk x11.Id x11.Origin (S_Fetch.mk a1.Id a1.Origin a1.Bytes a1.Method a1.Again (IntKind.i64.wrap (a0.Now + (10 : Int))) false) x11.Reader x11.Got x11.Used)).set x8.toNat (S_Conn.mk x12.Id x12.Origin x12.Fetch x10 x12.Got x12.Used)).set x8.toNat (S_Conn.mk x13.Id x13.Origin x13.Fetch x13.Reader false x13.Used)) x8).bind fun x14 =>
    (app 168 ([] : List S_Act) ([(S_Act.mk (2 : Int) x14.Id ([] : Bytes) a1.Bytes (0 : Int) (S_Message.mk (S_Start.mk ([] : Bytes) ([] : Bytes) (0 : Int) ([] : Bytes) (0 : Int)) ([] : List S_Field) ([] : Bytes)) (0 : Int))] : List S_Act)).bind fun x15 =>
    some ((S_Up.mk a0.Now a0.Next (((a0.Conns.set x8.toNat (S_Conn.mk x11.Id x11.Origin (S_Fetch.mk a1.Id a1.Origin a1.Bytes a1.Method a1.Again (IntKind.i64.wrap (a0.Now + (10 : Int))) false) x11.Reader x11.Got x11.Used)).set x8.toNat (S_Conn.mk x12.Id x12.Origin x12.Fetch x10 x12.Got x12.Used)).set x8.toNat (S_Conn.mk x13.Id x13.Origin x13.Fetch x13.Reader false x13.Used)) a0.Wait), x15, (0 : Int))
   else
    (upstream_count a0.Conns (fun x0 => upstream_to_1 x0 x7)).bind fun x16 =>
    bif (bif (decide (x16 < (4 : Int))) then (decide (a0.Next < (1000000000 : Int))) else false) then
     (app 336 a0.Conns ([(S_Conn.mk (IntKind.i64.wrap (a0.Next + (1 : Int))) a1.Origin (S_Fetch.mk (0 : Int) ([] : Bytes) ([] : Bytes) ([] : Bytes) false (0 : Int) false) (S_Reader.mk false ([] : Bytes) ([] : Bytes) false (S_Message.mk (S_Start.mk ([] : Bytes) ([] : Bytes) (0 : Int) ([] : Bytes) (0 : Int)) ([] : List S_Field) ([] : Bytes)) (S_Body.mk (0 : Int) (0 : Int)) (S_Chunked.mk (0 : Int) ([] : Bytes) (0 : Int) (0 : Int)) (0 : Int)) false (0 : Int))] : List S_Conn)).bind fun x17 =>
     (app 168 ([] : List S_Act) ([(S_Act.mk (1 : Int) (IntKind.i64.wrap (a0.Next + (1 : Int))) a1.Origin ([] : Bytes) (0 : Int) (S_Message.mk (S_Start.mk ([] : Bytes) ([] : Bytes) (0 : Int) ([] : Bytes) (0 : Int)) ([] : List S_Field) ([] : Bytes)) (0 : Int))] : List S_Act)).bind fun x18 =>
     chk (0 <= (IntKind.i64.wrap ((x17.length : Int) - (1 : Int))) /\ (IntKind.i64.wrap ((x17.length : Int) - (1 : Int))) < (x17.length : Int)) <|
     (wire_New false a1.Method).bind fun x20 =>
     (idx x17 (IntKind.i64.wrap ((x17.length : Int) - (1 : Int)))).bind fun x21 =>
     (idx (x17.set (IntKind.i64.wrap ((x17.length : Int) - (1 : Int))).toNat (S_Conn.mk x21.Id x21.Origin (S_Fetch.mk a1.Id a1.Origin a1.Bytes a1.Method a1.Again (IntKind.i64.wrap (a0.Now + (10 : Int))) false) x21.Reader x21.Got x21.Used)) (IntKind.i64.wrap ((x17.length : Int) - (1 : Int)))).bind fun x22 =>
     (idx ((x17.set (IntKind.i64.wrap ((x17.length : Int) - (1 : Int))).toNat (S_Conn.mk x21.Id x21.Origin (S_Fetch.mk a1.Id a1.Origin a1.Bytes a1.Method a1.Again (IntKind.i64.wrap (a0.Now + (10 : Int))) false) x21.Reader x21.Got x21.Used)).set (IntKind.i64.wrap ((x17.length : Int) - (1 : Int))).toNat (S_Conn.mk x22.Id x22.Origin x22.Fetch x20 x22.Got x22.Used)) (IntKind.i64.wrap ((x17.length : Int) - (1 : Int)))).bind fun x23 =>
     (idx (((x17.set (IntKind.i64.wrap ((x17.length : Int) - (1 : Int))).toNat (S_Conn.mk x21.Id x21.Origin (S_Fetch.mk a1.Id a1.Origin a1.Bytes a1.Method a1.Again (IntKind.i64.wrap (a0.Now + (10 : Int))) false) x21.Reader x21.Got x21.Used)).set (IntKind.i64.wrap ((x17.length : Int) - (1 : Int))).toNat (S_Conn.mk x22.Id x22.Origin x22.Fetch x20 x22.Got x22.Used)).set (IntKind.i64.wrap ((x17.length : Int) - (1 : Int))).toNat (S_Conn.mk x23.Id x23.Origin x23.Fetch x23.Reader false x23.Used)) (IntKind.i64.wrap ((x17.length : Int) - (1 : Int)))).bind fun x24 =>
     (app 168 x18 ([(S_Act.mk (2 : Int) x24.Id ([] : Bytes) a1.Bytes (0 : Int) (S_Message.mk (S_Start.mk ([] : Bytes) ([] : Bytes) (0 : Int) ([] : Bytes) (0 : Int)) ([] : List S_Field) ([] : Bytes)) (0 : Int))] : List S_Act)).bind fun x25 =>
     some ((S_Up.mk a0.Now (IntKind.i64.wrap (a0.Next + (1 : Int))) (((x17.set (IntKind.i64.wrap ((x17.length : Int) - (1 : Int))).toNat (S_Conn.mk x21.Id x21.Origin (S_Fetch.mk a1.Id a1.Origin a1.Bytes a1.Method a1.Again (IntKind.i64.wrap (a0.Now + (10 : Int))) false) x21.Reader x21.Got x21.Used)).set (IntKind.i64.wrap ((x17.length : Int) - (1 : Int))).toNat (S_Conn.mk x22.Id x22.Origin x22.Fetch x20 x22.Got x22.Used)).set (IntKind.i64.wrap ((x17.length : Int) - (1 : Int))).toNat (S_Conn.mk x23.Id x23.Origin x23.Fetch x23.Reader false x23.Used)) a0.Wait), x25, (0 : Int))
    else
     bif (decide ((a0.Wait.length : Int) ≥ (16 : Int))) then
      (app 168 ([] : List S_Act) ([(S_Act.mk (4 : Int) (0 : Int) ([] : Bytes) ([] : Bytes) a1.Id (S_Message.mk (S_Start.mk ([] : Bytes) ([] : Bytes) (0 : Int) ([] : Bytes) (0 : Int)) ([] : List S_Field) ([] : Bytes)) (4 : Int))] : List S_Act)).bind fun x26 =>
      some ((S_Up.mk a0.Now a0.Next a0.Conns a0.Wait), x26, (0 : Int))
     else
      (app 80 a0.Wait ([(S_Fetch.mk a1.Id a1.Origin a1.Bytes a1.Method a1.Again (IntKind.i64.wrap (a0.Now + (10 : Int))) false)] : List S_Fetch)).bind fun x27 =>
      some ((S_Up.mk a0.Now a0.Next a0.Conns x27), ([] : List S_Act), (0 : Int))
 else
  bif (bif (bif (bif (!x1) then true else (!x2)) then true else (decide (a0.Next ≥ (1000000000 : Int)))) then true else false) then
   some ((S_Up.mk (0 : Int) (0 : Int) ([] : List S_Conn) ([] : List S_Fetch)), ([] : List S_Act), (1 : Int))
  else
   none
noncomputable def slices_BinarySearchFunc__api_Conn_api_Conn_int_b1 (a0 : (List S_Conn)) (a1 : Int) (a2i : S_Conn -> Int -> Option Int) (x : (Int × Int)) : Option ((Int × Int) ⊕ Int) :=
 match x with
 | (s2, s3) =>
  bif (decide (s2 < s3)) then
   chk ((0 <= (1 : Int) /\ (1 : Int) <= (IntKind.u64.bits : Int)) /\ IntKind.u64.wrap ((IntKind.u64.wrap (IntKind.i64.wrap (s2 + s3))) / 2 ^ (1 : Int).toNat) = (IntKind.u64.wrap (IntKind.i64.wrap (s2 + s3))) / 2 ^ (1 : Int).toNat) <|
   (idx a0 (IntKind.i64.wrap ((IntKind.u64.wrap (IntKind.i64.wrap (s2 + s3))) / 2 ^ (1 : Int).toNat))).bind fun x5 =>
   (a2i x5 a1).bind fun x6 =>
   bif (decide (x6 < (0 : Int))) then
    some (.inl ((IntKind.i64.wrap ((IntKind.i64.wrap ((IntKind.u64.wrap (IntKind.i64.wrap (s2 + s3))) / 2 ^ (1 : Int).toNat)) + (1 : Int))), s3))
   else
    some (.inl (s2, (IntKind.i64.wrap ((IntKind.u64.wrap (IntKind.i64.wrap (s2 + s3))) / 2 ^ (1 : Int).toNat))))
  else
   some (.inr s2)
noncomputable def slices_BinarySearchFunc__api_Conn_api_Conn_int (a0 : (List S_Conn)) (a1 : Int) (a2i : S_Conn -> Int -> Option Int) : Option (Int × Bool) :=
 (loopO (slices_BinarySearchFunc__api_Conn_api_Conn_int_b1 a0 a1 a2i) ((0 : Int), (a0.length : Int)) : Option Int).bind fun j1 =>
 (gidx (decide (j1 < (a0.length : Int))) a0 j1).bind fun x7 =>
 (gcall (decide (j1 < (a0.length : Int))) (a2i x7 a1)).bind fun x8 =>
 some (j1, (bif (decide (j1 < (a0.length : Int))) then (x8 == (0 : Int)) else false))
noncomputable def upstream_find_1 (a0 : S_Conn) (a1 : Int) : Option Int :=
 some (IntKind.i64.wrap (a0.Id - a1))
noncomputable def upstream_find (a0 : S_Up) (a1 : Int) : Option (Int × Bool) :=
 (slices_BinarySearchFunc__api_Conn_api_Conn_int a0.Conns a1 (fun x0 x1 => upstream_find_1 x0 x1)).bind fun x1 =>
 some (x1.1, x1.2)
noncomputable def wire_reading_whole (o0 : S_wire_reading) : Option (Bool × S_wire_reading) :=
 (app 104 o0.out ([o0.Reader.Head] : List S_Message)).bind fun x1 =>
 some (true, (S_wire_reading.mk (S_Reader.mk o0.Reader.Asks o0.Reader.Method o0.Reader.Buf false (S_Message.mk (S_Start.mk ([] : Bytes) ([] : Bytes) (0 : Int) ([] : Bytes) (0 : Int)) ([] : List S_Field) ([] : Bytes)) (S_Body.mk (0 : Int) (0 : Int)) (S_Chunked.mk (0 : Int) ([] : Bytes) (0 : Int) (0 : Int)) o0.Reader.Bad) x1))
noncomputable def chunk_state_end (o0 : S_chunk_state) (a1 : Bytes) : Option (Unit × S_chunk_state) :=
 bif (!(a1 == ([] : Bytes))) then
  some ((), (S_chunk_state.mk (S_Chunked.mk (0 : Int) o0.Chunked.Line o0.Chunked.Left o0.Chunked.Size) (33 : Int)))
 else
  some ((), (S_chunk_state.mk (S_Chunked.mk (0 : Int) o0.Chunked.Line o0.Chunked.Left o0.Chunked.Size) o0.bad))
noncomputable def chunk_state_tail (o0 : S_chunk_state) (a1 : Bytes) : Option (Unit × S_chunk_state) :=
 bif (a1 == ([] : Bytes)) then
  some ((), (S_chunk_state.mk (S_Chunked.mk (4 : Int) o0.Chunked.Line o0.Chunked.Left o0.Chunked.Size) o0.bad))
 else
  some ((), o0)
noncomputable def number_ReadHex_1 (a0 : Int) : Option Int :=
 bif (bif (decide (a0 ≥ (48 : Int))) then (decide (a0 <= (57 : Int))) else false) then
  some (IntKind.u64.wrap (IntKind.u8.wrap (a0 - (48 : Int))))
 else
  bif (bif (decide (a0 ≥ (65 : Int))) then (decide (a0 <= (70 : Int))) else false) then
   some (IntKind.u64.wrap ((IntKind.u64.wrap (IntKind.u8.wrap (a0 - (65 : Int)))) + (10 : Int)))
  else
   bif (bif (decide (a0 ≥ (97 : Int))) then (decide (a0 <= (102 : Int))) else false) then
    some (IntKind.u64.wrap ((IntKind.u64.wrap (IntKind.u8.wrap (a0 - (97 : Int)))) + (10 : Int)))
   else
    some (16 : Int)
noncomputable def number_ReadHex (a0 : Bytes) : Option (Int × Int) :=
 (number_read_uint64 a0 (16 : Int) (fun x0 => number_ReadHex_1 x0)).bind fun x1 =>
 some (x1.1, x1.2)
noncomputable def chunk_state_size (o0 : S_chunk_state) (a1 : Bytes) : Option (Unit × S_chunk_state) :=
 (strings_Cut a1 ([59] : Bytes)).bind fun x1 =>
 (text_Trim x1.1).bind fun x2 =>
 (number_ReadHex x2).bind fun x3 =>
 bif (x3.2 == (10 : Int)) then
  some ((), (S_chunk_state.mk o0.Chunked (33 : Int)))
 else
  bif (bif (x3.2 != (0 : Int)) then true else (decide (x3.1 > (IntKind.u64.wrap (IntKind.i64.wrap ((20000 : Int) - o0.Chunked.Size)))))) then
   some ((), (S_chunk_state.mk o0.Chunked (2 : Int)))
  else
   bif (x3.1 == (0 : Int)) then
    some ((), (S_chunk_state.mk (S_Chunked.mk (3 : Int) o0.Chunked.Line o0.Chunked.Left o0.Chunked.Size) o0.bad))
   else
    some ((), (S_chunk_state.mk (S_Chunked.mk (1 : Int) o0.Chunked.Line (IntKind.i64.wrap x3.1) o0.Chunked.Size) o0.bad))
noncomputable def chunk_state_line (o0 : S_chunk_state) (a1 : Bytes) : Option (Int × S_chunk_state) :=
 bif (o0.Chunked.Stage == (2 : Int)) then
  (strings_IndexByte a1 (10 : Int)).bind fun x1 =>
  bif (decide (x1 ≥ (0 : Int))) then
   (slc a1 0 x1).bind fun x2 =>
   bif (decide ((IntKind.i64.wrap ((o0.Chunked.Line.length : Int) + (x2.length : Int))) > (200 : Int))) then
    some ((0 : Int), (S_chunk_state.mk o0.Chunked (33 : Int)))
   else
    (cat o0.Chunked.Line x2).bind fun x3 =>
    bif (decide (x1 < (0 : Int))) then
     some ((a1.length : Int), (S_chunk_state.mk (S_Chunked.mk o0.Chunked.Stage x3 o0.Chunked.Left o0.Chunked.Size) o0.bad))
    else
     (strings_TrimSuffix x3 ([13] : Bytes)).bind fun x4 =>
     (chunk_state_end (S_chunk_state.mk (S_Chunked.mk o0.Chunked.Stage ([] : Bytes) o0.Chunked.Left o0.Chunked.Size) o0.bad) x4).bind fun x5 =>
     some ((IntKind.i64.wrap (x1 + (1 : Int))), x5.2)
  else
   bif (decide ((IntKind.i64.wrap ((o0.Chunked.Line.length : Int) + (a1.length : Int))) > (200 : Int))) then
    some ((0 : Int), (S_chunk_state.mk o0.Chunked (33 : Int)))
   else
    (cat o0.Chunked.Line a1).bind fun x6 =>
    bif (decide (x1 < (0 : Int))) then
     some ((a1.length : Int), (S_chunk_state.mk (S_Chunked.mk o0.Chunked.Stage x6 o0.Chunked.Left o0.Chunked.Size) o0.bad))
    else
     (strings_TrimSuffix x6 ([13] : Bytes)).bind fun x7 =>
     (chunk_state_end (S_chunk_state.mk (S_Chunked.mk o0.Chunked.Stage ([] : Bytes) o0.Chunked.Left o0.Chunked.Size) o0.bad) x7).bind fun x8 =>
     some ((IntKind.i64.wrap (x1 + (1 : Int))), x8.2)
 else
  bif (o0.Chunked.Stage == (3 : Int)) then
   (strings_IndexByte a1 (10 : Int)).bind fun x9 =>
   bif (decide (x9 ≥ (0 : Int))) then
    (slc a1 0 x9).bind fun x10 =>
    bif (decide ((IntKind.i64.wrap ((o0.Chunked.Line.length : Int) + (x10.length : Int))) > (200 : Int))) then
     some ((0 : Int), (S_chunk_state.mk o0.Chunked (33 : Int)))
    else
     (cat o0.Chunked.Line x10).bind fun x11 =>
     bif (decide (x9 < (0 : Int))) then
      some ((a1.length : Int), (S_chunk_state.mk (S_Chunked.mk o0.Chunked.Stage x11 o0.Chunked.Left o0.Chunked.Size) o0.bad))
     else
      (strings_TrimSuffix x11 ([13] : Bytes)).bind fun x12 =>
      (chunk_state_tail (S_chunk_state.mk (S_Chunked.mk o0.Chunked.Stage ([] : Bytes) o0.Chunked.Left o0.Chunked.Size) o0.bad) x12).bind fun x13 =>
      some ((IntKind.i64.wrap (x9 + (1 : Int))), x13.2)
   else
    bif (decide ((IntKind.i64.wrap ((o0.Chunked.Line.length : Int) + (a1.length : Int))) > (200 : Int))) then
     some ((0 : Int), (S_chunk_state.mk o0.Chunked (33 : Int)))
    else
     (cat o0.Chunked.Line a1).bind fun x14 =>
     bif (decide (x9 < (0 : Int))) then
      some ((a1.length : Int), (S_chunk_state.mk (S_Chunked.mk o0.Chunked.Stage x14 o0.Chunked.Left o0.Chunked.Size) o0.bad))
     else
      (strings_TrimSuffix x14 ([13] : Bytes)).bind fun x15 =>
      (chunk_state_tail (S_chunk_state.mk (S_Chunked.mk o0.Chunked.Stage ([] : Bytes) o0.Chunked.Left o0.Chunked.Size) o0.bad) x15).bind fun x16 =>
      some ((IntKind.i64.wrap (x9 + (1 : Int))), x16.2)
  else
   (strings_IndexByte a1 (10 : Int)).bind fun x17 =>
   bif (decide (x17 ≥ (0 : Int))) then
    (slc a1 0 x17).bind fun x18 =>
    bif (decide ((IntKind.i64.wrap ((o0.Chunked.Line.length : Int) + (x18.length : Int))) > (200 : Int))) then
     some ((0 : Int), (S_chunk_state.mk o0.Chunked (33 : Int)))
    else
     (cat o0.Chunked.Line x18).bind fun x19 =>
     bif (decide (x17 < (0 : Int))) then
      some ((a1.length : Int), (S_chunk_state.mk (S_Chunked.mk o0.Chunked.Stage x19 o0.Chunked.Left o0.Chunked.Size) o0.bad))
     else
      (strings_TrimSuffix x19 ([13] : Bytes)).bind fun x20 =>
      (chunk_state_size (S_chunk_state.mk (S_Chunked.mk o0.Chunked.Stage ([] : Bytes) o0.Chunked.Left o0.Chunked.Size) o0.bad) x20).bind fun x21 =>
      some ((IntKind.i64.wrap (x17 + (1 : Int))), x21.2)
   else
    bif (decide ((IntKind.i64.wrap ((o0.Chunked.Line.length : Int) + (a1.length : Int))) > (200 : Int))) then
     some ((0 : Int), (S_chunk_state.mk o0.Chunked (33 : Int)))
    else
     (cat o0.Chunked.Line a1).bind fun x22 =>
     bif (decide (x17 < (0 : Int))) then
      some ((a1.length : Int), (S_chunk_state.mk (S_Chunked.mk o0.Chunked.Stage x22 o0.Chunked.Left o0.Chunked.Size) o0.bad))
     else
      (strings_TrimSuffix x22 ([13] : Bytes)).bind fun x23 =>
      (chunk_state_size (S_chunk_state.mk (S_Chunked.mk o0.Chunked.Stage ([] : Bytes) o0.Chunked.Left o0.Chunked.Size) o0.bad) x23).bind fun x24 =>
      some ((IntKind.i64.wrap (x17 + (1 : Int))), x24.2)
noncomputable def chunk_Feed_b1 (a1 : Bytes) (x : (Int × S_chunk_state × Bytes)) : Option ((Int × S_chunk_state × Bytes) ⊕ (S_Chunked × Bytes × Int × Int)) :=
 match x with
 | (s2, s3, s4) =>
  bif (bif (decide (s2 < (a1.length : Int))) then (s3.Chunked.Stage != (4 : Int)) else false) then
   bif (s3.Chunked.Stage != (1 : Int)) then
    (slc a1 s2 (a1.length : Int)).bind fun x5 =>
    (chunk_state_line s3 x5).bind fun x6 =>
    bif (x6.2.bad != (0 : Int)) then
     some (.inr ((S_Chunked.mk (0 : Int) ([] : Bytes) (0 : Int) (0 : Int)), ([] : Bytes), (0 : Int), x6.2.bad))
    else
     some (.inl ((IntKind.i64.wrap (s2 + x6.1)), x6.2, s4))
   else
    (slc a1 s2 (IntKind.i64.wrap (s2 + (imin s3.Chunked.Left (IntKind.i64.wrap ((a1.length : Int) - s2)))))).bind fun x7 =>
    (bcat s4 x7).bind fun x8 =>
    bif ((IntKind.i64.wrap (s3.Chunked.Left - (imin s3.Chunked.Left (IntKind.i64.wrap ((a1.length : Int) - s2))))) == (0 : Int)) then
     some (.inl ((IntKind.i64.wrap (s2 + (imin s3.Chunked.Left (IntKind.i64.wrap ((a1.length : Int) - s2))))), (S_chunk_state.mk (S_Chunked.mk (2 : Int) s3.Chunked.Line (IntKind.i64.wrap (s3.Chunked.Left - (imin s3.Chunked.Left (IntKind.i64.wrap ((a1.length : Int) - s2))))) (IntKind.i64.wrap (s3.Chunked.Size + (imin s3.Chunked.Left (IntKind.i64.wrap ((a1.length : Int) - s2)))))) s3.bad), (s4 ++ x7)))
    else
     some (.inl ((IntKind.i64.wrap (s2 + (imin s3.Chunked.Left (IntKind.i64.wrap ((a1.length : Int) - s2))))), (S_chunk_state.mk (S_Chunked.mk s3.Chunked.Stage s3.Chunked.Line (IntKind.i64.wrap (s3.Chunked.Left - (imin s3.Chunked.Left (IntKind.i64.wrap ((a1.length : Int) - s2))))) (IntKind.i64.wrap (s3.Chunked.Size + (imin s3.Chunked.Left (IntKind.i64.wrap ((a1.length : Int) - s2)))))) s3.bad), (s4 ++ x7)))
  else
   (bcat s4 []).bind fun x9 =>
   some (.inr (s3.Chunked, s4, s2, (0 : Int)))
noncomputable def chunk_Feed (a0 : S_Chunked) (a1 : Bytes) : Option (S_Chunked × Bytes × Int × Int) :=
 (chunk_Right a0).bind fun x1 =>
 bif (!x1) then
  some ((S_Chunked.mk (0 : Int) ([] : Bytes) (0 : Int) (0 : Int)), ([] : Bytes), (0 : Int), (1 : Int))
 else
  loopO (chunk_Feed_b1 a1) ((0 : Int), (S_chunk_state.mk a0 (0 : Int)), ([] : Bytes))
noncomputable def wire_reading_fail (o0 : S_wire_reading) (a1 : Int) : Option (Bool × S_wire_reading) :=
 some (false, (S_wire_reading.mk (S_Reader.mk o0.Reader.Asks o0.Reader.Method ([] : Bytes) false (S_Message.mk (S_Start.mk ([] : Bytes) ([] : Bytes) (0 : Int) ([] : Bytes) (0 : Int)) ([] : List S_Field) ([] : Bytes)) (S_Body.mk (0 : Int) (0 : Int)) (S_Chunked.mk (0 : Int) ([] : Bytes) (0 : Int) (0 : Int)) a1) o0.out))
noncomputable def wire_reading_more (o0 : S_wire_reading) : Option (Bool × S_wire_reading) :=
 bif (o0.Reader.Body.Kind == (0 : Int)) then
  (wire_reading_whole o0).bind fun x1 =>
  some (x1.1, x1.2)
 else
  bif (o0.Reader.Body.Kind == (1 : Int)) then
   (slc o0.Reader.Buf 0 (imin (o0.Reader.Buf.length : Int) (IntKind.i64.wrap (o0.Reader.Body.Size - (o0.Reader.Head.Body.length : Int))))).bind fun x2 =>
   (cat o0.Reader.Head.Body x2).bind fun x3 =>
   (slc o0.Reader.Buf (imin (o0.Reader.Buf.length : Int) (IntKind.i64.wrap (o0.Reader.Body.Size - (o0.Reader.Head.Body.length : Int)))) (o0.Reader.Buf.length : Int)).bind fun x4 =>
   bif ((x3.length : Int) == o0.Reader.Body.Size) then
    (wire_reading_whole (S_wire_reading.mk (S_Reader.mk o0.Reader.Asks o0.Reader.Method x4 o0.Reader.In (S_Message.mk o0.Reader.Head.Start o0.Reader.Head.Fields x3) o0.Reader.Body o0.Reader.Chunk o0.Reader.Bad) o0.out)).bind fun x5 =>
    some ((bif ((x3.length : Int) == o0.Reader.Body.Size) then x5.1 else false), x5.2)
   else
    some ((bif ((x3.length : Int) == o0.Reader.Body.Size) then false else false), (S_wire_reading.mk (S_Reader.mk o0.Reader.Asks o0.Reader.Method x4 o0.Reader.In (S_Message.mk o0.Reader.Head.Start o0.Reader.Head.Fields x3) o0.Reader.Body o0.Reader.Chunk o0.Reader.Bad) o0.out))
  else
   bif (o0.Reader.Body.Kind == (2 : Int)) then
    (chunk_Feed o0.Reader.Chunk o0.Reader.Buf).bind fun x6 =>
    bif (x6.2.2.2 != (0 : Int)) then
     (wire_reading_fail o0 x6.2.2.2).bind fun x7 =>
     some (x7.1, x7.2)
    else
     (cat o0.Reader.Head.Body x6.2.1).bind fun x8 =>
     (slc o0.Reader.Buf x6.2.2.1 (o0.Reader.Buf.length : Int)).bind fun x9 =>
     bif (x6.1.Stage == (4 : Int)) then
      (wire_reading_whole (S_wire_reading.mk (S_Reader.mk o0.Reader.Asks o0.Reader.Method x9 o0.Reader.In (S_Message.mk o0.Reader.Head.Start o0.Reader.Head.Fields x8) o0.Reader.Body x6.1 o0.Reader.Bad) o0.out)).bind fun x10 =>
      some ((bif (x6.1.Stage == (4 : Int)) then x10.1 else false), x10.2)
     else
      some ((bif (x6.1.Stage == (4 : Int)) then false else false), (S_wire_reading.mk (S_Reader.mk o0.Reader.Asks o0.Reader.Method x9 o0.Reader.In (S_Message.mk o0.Reader.Head.Start o0.Reader.Head.Fields x8) o0.Reader.Body x6.1 o0.Reader.Bad) o0.out))
   else
    (cat o0.Reader.Head.Body o0.Reader.Buf).bind fun x11 =>
    bif (decide ((x11.length : Int) > (20000 : Int))) then
     (wire_reading_fail (S_wire_reading.mk (S_Reader.mk o0.Reader.Asks o0.Reader.Method o0.Reader.Buf o0.Reader.In (S_Message.mk o0.Reader.Head.Start o0.Reader.Head.Fields x11) o0.Reader.Body o0.Reader.Chunk o0.Reader.Bad) o0.out) (2 : Int)).bind fun x12 =>
     some (x12.1, x12.2)
    else
     some (false, (S_wire_reading.mk (S_Reader.mk o0.Reader.Asks o0.Reader.Method ([] : Bytes) o0.Reader.In (S_Message.mk o0.Reader.Head.Start o0.Reader.Head.Fields x11) o0.Reader.Body o0.Reader.Chunk o0.Reader.Bad) o0.out))
noncomputable def stringslite_TrimPrefix (a0 : Bytes) (a1 : Bytes) : Option Bytes :=
 (stringslite_HasPrefix a0 a1).bind fun x1 =>
 bif x1 then
  (slc a0 (a1.length : Int) (a0.length : Int)).bind fun x2 =>
  some x2
 else
  some a0
noncomputable def strings_TrimPrefix (a0 : Bytes) (a1 : Bytes) : Option Bytes :=
 (stringslite_TrimPrefix a0 a1).bind fun x1 =>
 some x1
noncomputable def start_minor (a0 : Bytes) : Option Int :=
 bif (a0 == ([72, 84, 84, 80, 47, 49, 46, 48] : Bytes)) then
  some (0 : Int)
 else
  bif (a0 == ([72, 84, 84, 80, 47, 49, 46, 49] : Bytes)) then
   some (1 : Int)
  else
   some (2 : Int)
noncomputable def start_Parse (a0 : Bytes) : Option (S_Start × Int) :=
 (strings_Split a0 ([32] : Bytes)).bind fun x1 =>
 bif ((x1.length : Int) != (3 : Int)) then
  some ((S_Start.mk ([] : Bytes) ([] : Bytes) (0 : Int) ([] : Bytes) (0 : Int)), (30 : Int))
 else
  (idx x1 (0 : Int)).bind fun x2 =>
  (idx x1 (1 : Int)).bind fun x3 =>
  (idx x1 (2 : Int)).bind fun x4 =>
  (start_minor x4).bind fun x5 =>
  (start_Right (S_Start.mk x2 x3 (0 : Int) ([] : Bytes) x5)).bind fun x6 =>
  bif (!x6) then
   some ((S_Start.mk ([] : Bytes) ([] : Bytes) (0 : Int) ([] : Bytes) (0 : Int)), (30 : Int))
  else
   some ((S_Start.mk x2 x3 (0 : Int) ([] : Bytes) x5), (0 : Int))
noncomputable def start_Status (a0 : Bytes) : Option (S_Start × Int) :=
 (strings_SplitN a0 ([32] : Bytes) (3 : Int)).bind fun x1 =>
 (gidx (!(decide ((x1.length : Int) < (2 : Int)))) x1 (1 : Int)).bind fun x2 =>
 bif (bif (decide ((x1.length : Int) < (2 : Int))) then true else ((x2.length : Int) != (3 : Int))) then
  some ((S_Start.mk ([] : Bytes) ([] : Bytes) (0 : Int) ([] : Bytes) (0 : Int)), (30 : Int))
 else
  (idx x1 (1 : Int)).bind fun x3 =>
  (number_ReadDec x3).bind fun x4 =>
  (idx x1 (0 : Int)).bind fun x5 =>
  (start_minor x5).bind fun x6 =>
  bif ((x1.length : Int) == (3 : Int)) then
   (idx x1 (2 : Int)).bind fun x7 =>
   (gcall (!(bif (x4.2 != (0 : Int)) then true else (x4.1 == (0 : Int)))) (start_Right (S_Start.mk ([] : Bytes) ([] : Bytes) (IntKind.i64.wrap x4.1) x7 x6))).bind fun x8 =>
   bif (bif (bif (x4.2 != (0 : Int)) then true else (x4.1 == (0 : Int))) then true else (!x8)) then
    some ((S_Start.mk ([] : Bytes) ([] : Bytes) (0 : Int) ([] : Bytes) (0 : Int)), (30 : Int))
   else
    some ((S_Start.mk ([] : Bytes) ([] : Bytes) (IntKind.i64.wrap x4.1) x7 x6), (0 : Int))
  else
   (gcall (!(bif (x4.2 != (0 : Int)) then true else (x4.1 == (0 : Int)))) (start_Right (S_Start.mk ([] : Bytes) ([] : Bytes) (IntKind.i64.wrap x4.1) ([] : Bytes) x6))).bind fun x9 =>
   bif (bif (bif (x4.2 != (0 : Int)) then true else (x4.1 == (0 : Int))) then true else (!x9)) then
    some ((S_Start.mk ([] : Bytes) ([] : Bytes) (0 : Int) ([] : Bytes) (0 : Int)), (30 : Int))
   else
    some ((S_Start.mk ([] : Bytes) ([] : Bytes) (IntKind.i64.wrap x4.1) ([] : Bytes) x6), (0 : Int))
noncomputable def wire_reading_begin_b1 (s2 : S_wire_reading) : Option (S_wire_reading ⊕ S_wire_reading) :=
 (gcall s2.Reader.Asks (strings_HasPrefix s2.Reader.Buf ([10] : Bytes))).bind fun x3 =>
 (gcall (s2.Reader.Asks && (!x3)) (strings_HasPrefix s2.Reader.Buf ([13, 10] : Bytes))).bind fun x4 =>
 bif (bif s2.Reader.Asks then (bif x3 then true else x4) else false) then
  (strings_TrimPrefix s2.Reader.Buf ([13] : Bytes)).bind fun x5 =>
  (strings_TrimPrefix x5 ([10] : Bytes)).bind fun x6 =>
  some (.inl (S_wire_reading.mk (S_Reader.mk s2.Reader.Asks s2.Reader.Method x6 s2.Reader.In s2.Reader.Head s2.Reader.Body s2.Reader.Chunk s2.Reader.Bad) s2.out))
 else
  some (.inr s2)
noncomputable def wire_reading_begin (o0 : S_wire_reading) : Option (Bool × S_wire_reading) :=
 (loopO wire_reading_begin_b1 o0 : Option S_wire_reading).bind fun j1 =>
 (head_End j1.Reader.Buf).bind fun x7 =>
 bif (x7.2 == (3 : Int)) then
  some (false, j1)
 else
  bif (x7.2 != (0 : Int)) then
   (wire_reading_fail j1 x7.2).bind fun x8 =>
   some (x8.1, x8.2)
  else
   (slc j1.Reader.Buf 0 x7.1).bind fun x9 =>
   (strings_Cut x9 ([10] : Bytes)).bind fun x10 =>
   bif j1.Reader.Asks then
    (strings_TrimSuffix x10.1 ([13] : Bytes)).bind fun x11 =>
    (start_Parse x11).bind fun x12 =>
    bif (x12.2 != (0 : Int)) then
     (wire_reading_fail (S_wire_reading.mk (S_Reader.mk j1.Reader.Asks j1.Reader.Method j1.Reader.Buf j1.Reader.In (S_Message.mk x12.1 j1.Reader.Head.Fields j1.Reader.Head.Body) j1.Reader.Body j1.Reader.Chunk j1.Reader.Bad) j1.out) x12.2).bind fun x13 =>
     some (x13.1, x13.2)
    else
     (strings_TrimSuffix x10.2.1 ([10] : Bytes)).bind fun x14 =>
     (strings_TrimSuffix x14 ([13] : Bytes)).bind fun x15 =>
     (head_Parse x15).bind fun x16 =>
     bif (x16.2 != (0 : Int)) then
      (wire_reading_fail (S_wire_reading.mk (S_Reader.mk j1.Reader.Asks j1.Reader.Method j1.Reader.Buf j1.Reader.In (S_Message.mk x12.1 x16.1 j1.Reader.Head.Body) j1.Reader.Body j1.Reader.Chunk j1.Reader.Bad) j1.out) x16.2).bind fun x17 =>
      some (x17.1, x17.2)
     else
      (wire_body (S_Reader.mk j1.Reader.Asks j1.Reader.Method j1.Reader.Buf j1.Reader.In (S_Message.mk x12.1 x16.1 j1.Reader.Head.Body) j1.Reader.Body j1.Reader.Chunk j1.Reader.Bad)).bind fun x18 =>
      bif (x18.2 != (0 : Int)) then
       (wire_reading_fail (S_wire_reading.mk (S_Reader.mk j1.Reader.Asks j1.Reader.Method j1.Reader.Buf j1.Reader.In (S_Message.mk x12.1 x16.1 j1.Reader.Head.Body) x18.1 j1.Reader.Chunk j1.Reader.Bad) j1.out) x18.2).bind fun x19 =>
       some (x19.1, x19.2)
      else
       (slc j1.Reader.Buf x7.1 (j1.Reader.Buf.length : Int)).bind fun x20 =>
       bif (bif (x12.1.Code != (0 : Int)) then (decide (x12.1.Code < (200 : Int))) else false) then
        some (true, (S_wire_reading.mk (S_Reader.mk j1.Reader.Asks j1.Reader.Method x20 j1.Reader.In (S_Message.mk (S_Start.mk ([] : Bytes) ([] : Bytes) (0 : Int) ([] : Bytes) (0 : Int)) ([] : List S_Field) ([] : Bytes)) (S_Body.mk (0 : Int) (0 : Int)) j1.Reader.Chunk j1.Reader.Bad) j1.out))
       else
        some (true, (S_wire_reading.mk (S_Reader.mk j1.Reader.Asks j1.Reader.Method x20 true (S_Message.mk x12.1 x16.1 j1.Reader.Head.Body) x18.1 j1.Reader.Chunk j1.Reader.Bad) j1.out))
   else
    (strings_TrimSuffix x10.1 ([13] : Bytes)).bind fun x21 =>
    (start_Status x21).bind fun x22 =>
    bif (x22.2 != (0 : Int)) then
     (wire_reading_fail (S_wire_reading.mk (S_Reader.mk j1.Reader.Asks j1.Reader.Method j1.Reader.Buf j1.Reader.In (S_Message.mk x22.1 j1.Reader.Head.Fields j1.Reader.Head.Body) j1.Reader.Body j1.Reader.Chunk j1.Reader.Bad) j1.out) x22.2).bind fun x23 =>
     some (x23.1, x23.2)
    else
     (strings_TrimSuffix x10.2.1 ([10] : Bytes)).bind fun x24 =>
     (strings_TrimSuffix x24 ([13] : Bytes)).bind fun x25 =>
     (head_Parse x25).bind fun x26 =>
     bif (x26.2 != (0 : Int)) then
      (wire_reading_fail (S_wire_reading.mk (S_Reader.mk j1.Reader.Asks j1.Reader.Method j1.Reader.Buf j1.Reader.In (S_Message.mk x22.1 x26.1 j1.Reader.Head.Body) j1.Reader.Body j1.Reader.Chunk j1.Reader.Bad) j1.out) x26.2).bind fun x27 =>
      some (x27.1, x27.2)
     else
      (wire_body (S_Reader.mk j1.Reader.Asks j1.Reader.Method j1.Reader.Buf j1.Reader.In (S_Message.mk x22.1 x26.1 j1.Reader.Head.Body) j1.Reader.Body j1.Reader.Chunk j1.Reader.Bad)).bind fun x28 =>
      bif (x28.2 != (0 : Int)) then
       (wire_reading_fail (S_wire_reading.mk (S_Reader.mk j1.Reader.Asks j1.Reader.Method j1.Reader.Buf j1.Reader.In (S_Message.mk x22.1 x26.1 j1.Reader.Head.Body) x28.1 j1.Reader.Chunk j1.Reader.Bad) j1.out) x28.2).bind fun x29 =>
       some (x29.1, x29.2)
      else
       (slc j1.Reader.Buf x7.1 (j1.Reader.Buf.length : Int)).bind fun x30 =>
       bif (bif (x22.1.Code != (0 : Int)) then (decide (x22.1.Code < (200 : Int))) else false) then
        some (true, (S_wire_reading.mk (S_Reader.mk j1.Reader.Asks j1.Reader.Method x30 j1.Reader.In (S_Message.mk (S_Start.mk ([] : Bytes) ([] : Bytes) (0 : Int) ([] : Bytes) (0 : Int)) ([] : List S_Field) ([] : Bytes)) (S_Body.mk (0 : Int) (0 : Int)) j1.Reader.Chunk j1.Reader.Bad) j1.out))
       else
        some (true, (S_wire_reading.mk (S_Reader.mk j1.Reader.Asks j1.Reader.Method x30 true (S_Message.mk x22.1 x26.1 j1.Reader.Head.Body) x28.1 j1.Reader.Chunk j1.Reader.Bad) j1.out))
noncomputable def wire_Feed_b1 (s3 : S_wire_reading) : Option (S_wire_reading ⊕ (S_Reader × (List S_Message) × Int)) :=
 bif s3.Reader.In then
  (wire_reading_more s3).bind fun x4 =>
  bif (!x4.1) then
   some (.inr (x4.2.Reader, x4.2.out, (0 : Int)))
  else
   some (.inl x4.2)
 else
  (wire_reading_begin s3).bind fun x5 =>
  bif (!x5.1) then
   some (.inr (x5.2.Reader, x5.2.out, (0 : Int)))
  else
   some (.inl x5.2)
noncomputable def wire_Feed (a0 : S_Reader) (a1 : Bytes) : Option (S_Reader × (List S_Message) × Int) :=
 (wire_Right a0).bind fun x1 =>
 bif (!x1) then
  some ((S_Reader.mk false ([] : Bytes) ([] : Bytes) false (S_Message.mk (S_Start.mk ([] : Bytes) ([] : Bytes) (0 : Int) ([] : Bytes) (0 : Int)) ([] : List S_Field) ([] : Bytes)) (S_Body.mk (0 : Int) (0 : Int)) (S_Chunked.mk (0 : Int) ([] : Bytes) (0 : Int) (0 : Int)) (0 : Int)), ([] : List S_Message), (1 : Int))
 else
  bif (a0.Bad != (0 : Int)) then
   some (a0, ([] : List S_Message), (0 : Int))
  else
   (cat a0.Buf a1).bind fun x2 =>
   loopO wire_Feed_b1 (S_wire_reading.mk (S_Reader.mk a0.Asks a0.Method x2 a0.In a0.Head a0.Body a0.Chunk a0.Bad) ([] : List S_Message))
noncomputable def hop_words_b1 (x3 : (List Bytes)) (x : ((List Bytes) × Int)) : Option (((List Bytes) × Int) ⊕ (List Bytes)) :=
 match x with
 | (s4, s5) =>
  bif (decide (s5 < (x3.length : Int))) then
   (idx x3 s5).bind fun x6 =>
   (text_Trim x6).bind fun x7 =>
   (text_Lower x7).bind fun x8 =>
   (app 16 s4 ([x8] : List Bytes)).bind fun x9 =>
   some (.inl (x9, (IntKind.i64.wrap (s5 + (1 : Int)))))
  else
   some (.inr s4)
noncomputable def hop_words (a0 : (List S_Field)) : Option (List Bytes) :=
 (table_Joined a0 ([67, 111, 110, 110, 101, 99, 116, 105, 111, 110] : Bytes)).bind fun x1 =>
 ((strings_Split x1.1 ([44] : Bytes)).bind fun x3 =>
 loopO (hop_words_b1 x3) (([] : List Bytes), (0 : Int)) : Option (List Bytes)).bind fun j2 =>
 some j2
noncomputable def hop_Keeps_b1 (x1 : (List Bytes)) (x : (Bool × Int)) : Option ((Bool × Int) ⊕ Bool) :=
 match x with
 | (s2, s3) =>
  bif (decide (s3 < (x1.length : Int))) then
   (idx x1 s3).bind fun x4 =>
   bif (x4 == ([99, 108, 111, 115, 101] : Bytes)) then
    some (.inr false)
   else
    bif (x4 == ([107, 101, 101, 112, 45, 97, 108, 105, 118, 101] : Bytes)) then
     some (.inl (true, (IntKind.i64.wrap (s3 + (1 : Int)))))
    else
     some (.inl (s2, (IntKind.i64.wrap (s3 + (1 : Int)))))
  else
   some (.inr s2)
noncomputable def hop_Keeps (a0 : S_Start) (a1 : (List S_Field)) : Option Bool :=
 (hop_words a1).bind fun x1 =>
 loopO (hop_Keeps_b1 x1) ((a0.Minor == (1 : Int)), (0 : Int))
noncomputable def upstream_Recv_b1 (a0 : S_Up) (s13 : Int) : Option (Int ⊕ Unit) :=
 bif (decide (s13 < (a0.Wait.length : Int))) then
  none
 else
  some (.inr ())
noncomputable def upstream_Recv_b2 (a0 : S_Up) (s32 : Int) : Option (Int ⊕ Unit) :=
 bif (decide (s32 < (a0.Wait.length : Int))) then
  none
 else
  some (.inr ())
noncomputable def upstream_Recv_b3 (a0 : S_Up) (s39 : Int) : Option (Int ⊕ Unit) :=
 bif (decide (s39 < (a0.Wait.length : Int))) then
  none
 else
  some (.inr ())
noncomputable def upstream_Recv_b4 (a0 : S_Up) (s47 : Int) : Option (Int ⊕ Unit) :=
 bif (decide (s47 < (a0.Wait.length : Int))) then
  none
 else
  some (.inr ())
noncomputable def upstream_Recv_b5 (a0 : S_Up) (s49 : Int) : Option (Int ⊕ Unit) :=
 bif (decide (s49 < (a0.Wait.length : Int))) then
  none
 else
  some (.inr ())
noncomputable def upstream_Recv (a0 : S_Up) (a1 : Int) (a2 : Bytes) : Option (S_Up × (List S_Act) × Int) :=
 (upstream_find a0 a1).bind fun x1 =>
 (upstream_Right a0).bind fun x2 =>
 bif (bif (!x2) then true else (!x1.2)) then
  some ((S_Up.mk (0 : Int) (0 : Int) ([] : List S_Conn) ([] : List S_Fetch)), ([] : List S_Act), (1 : Int))
 else
  (chk2 (a0.Conns.length <= maxLen /\ a0.Conns.length * 336 <= 140737488355328)).bind fun x3 =>
  (chk2 (a0.Wait.length <= maxLen /\ a0.Wait.length * 80 <= 140737488355328)).bind fun x4 =>
  chk (0 <= x1.1 /\ x1.1 < (a0.Conns.length : Int)) <|
  bif (a2 == ([] : Bytes)) then
   some (a0, ([] : List S_Act), (0 : Int))
  else
   (idx a0.Conns x1.1).bind fun x6 =>
   (upstream_idle x6).bind fun x7 =>
   bif x7 then
    chk (0 <= x1.1 /\ x1.1 < (a0.Conns.length : Int)) <|
    (idx a0.Conns x1.1).bind fun x9 =>
    (app 168 ([] : List S_Act) ([(S_Act.mk (3 : Int) x9.Id ([] : Bytes) ([] : Bytes) (0 : Int) (S_Message.mk (S_Start.mk ([] : Bytes) ([] : Bytes) (0 : Int) ([] : Bytes) (0 : Int)) ([] : List S_Field) ([] : Bytes)) (0 : Int))] : List S_Act)).bind fun x10 =>
    (del a0.Conns x1.1 (IntKind.i64.wrap (x1.1 + (1 : Int)))).bind fun x11 =>
    (loopO (upstream_Recv_b1 a0) (0 : Int) : Option Unit).bind fun j12 =>
    some ((S_Up.mk a0.Now a0.Next x11 a0.Wait), x10, (0 : Int))
   else
    (idx a0.Conns x1.1).bind fun x14 =>
    (wire_Feed x14.Reader a2).bind fun x15 =>
    (idx a0.Conns x1.1).bind fun x16 =>
    (idx (a0.Conns.set x1.1.toNat (S_Conn.mk x16.Id x16.Origin x16.Fetch x15.1 x16.Got x16.Used)) x1.1).bind fun x17 =>
    bif (decide ((x15.2.1.length : Int) > (0 : Int))) then
     (idx x15.2.1 (0 : Int)).bind fun x18 =>
     (gcall ((x15.2.1.length : Int) == (1 : Int)) (upstream_fresh x15.1)).bind fun x19 =>
     chk (0 <= x1.1 /\ x1.1 < (a0.Conns.length : Int)) <|
     (idx ((a0.Conns.set x1.1.toNat (S_Conn.mk x16.Id x16.Origin x16.Fetch x15.1 x16.Got x16.Used)).set x1.1.toNat (S_Conn.mk x17.Id x17.Origin x17.Fetch x17.Reader true x17.Used)) x1.1).bind fun x21 =>
     (app 168 ([] : List S_Act) ([(S_Act.mk (4 : Int) (0 : Int) ([] : Bytes) ([] : Bytes) x21.Fetch.Id x18 (0 : Int))] : List S_Act)).bind fun x22 =>
     (idx ((a0.Conns.set x1.1.toNat (S_Conn.mk x16.Id x16.Origin x16.Fetch x15.1 x16.Got x16.Used)).set x1.1.toNat (S_Conn.mk x17.Id x17.Origin x17.Fetch x17.Reader true x17.Used)) x1.1).bind fun x23 =>
     (upstream_free ((a0.Conns.set x1.1.toNat (S_Conn.mk x16.Id x16.Origin x16.Fetch x15.1 x16.Got x16.Used)).set x1.1.toNat (S_Conn.mk x17.Id x17.Origin x17.Fetch x17.Reader true x17.Used)) x23.Origin).bind fun x24 =>
     (gcall (!(!(bif ((x15.2.1.length : Int) == (1 : Int)) then x19 else false))) (hop_Keeps x18.Start x18.Fields)).bind fun x25 =>
     (idx ((a0.Conns.set x1.1.toNat (S_Conn.mk x16.Id x16.Origin x16.Fetch x15.1 x16.Got x16.Used)).set x1.1.toNat (S_Conn.mk x17.Id x17.Origin x17.Fetch x17.Reader true x17.Used)) x1.1).bind fun x26 =>
     bif (bif (bif (bif (!(bif ((x15.2.1.length : Int) == (1 : Int)) then x19 else false)) then true else (!x25)) then true else (decide (x24.1 ≥ (2 : Int)))) then true else (decide (x26.Used ≥ (1000000000 : Int)))) then
      chk (0 <= x1.1 /\ x1.1 < (a0.Conns.length : Int)) <|
      (idx ((a0.Conns.set x1.1.toNat (S_Conn.mk x16.Id x16.Origin x16.Fetch x15.1 x16.Got x16.Used)).set x1.1.toNat (S_Conn.mk x17.Id x17.Origin x17.Fetch x17.Reader true x17.Used)) x1.1).bind fun x28 =>
      (app 168 x22 ([(S_Act.mk (3 : Int) x28.Id ([] : Bytes) ([] : Bytes) (0 : Int) (S_Message.mk (S_Start.mk ([] : Bytes) ([] : Bytes) (0 : Int) ([] : Bytes) (0 : Int)) ([] : List S_Field) ([] : Bytes)) (0 : Int))] : List S_Act)).bind fun x29 =>
      (del ((a0.Conns.set x1.1.toNat (S_Conn.mk x16.Id x16.Origin x16.Fetch x15.1 x16.Got x16.Used)).set x1.1.toNat (S_Conn.mk x17.Id x17.Origin x17.Fetch x17.Reader true x17.Used)) x1.1 (IntKind.i64.wrap (x1.1 + (1 : Int)))).bind fun x30 =>
      (loopO (upstream_Recv_b2 a0) (0 : Int) : Option Unit).bind fun j31 =>
      some ((S_Up.mk a0.Now a0.Next x30 a0.Wait), x29, (0 : Int))
     else
      (idx ((a0.Conns.set x1.1.toNat (S_Conn.mk x16.Id x16.Origin x16.Fetch x15.1 x16.Got x16.Used)).set x1.1.toNat (S_Conn.mk x17.Id x17.Origin x17.Fetch x17.Reader true x17.Used)) x1.1).bind fun x33 =>
      (idx (((a0.Conns.set x1.1.toNat (S_Conn.mk x16.Id x16.Origin x16.Fetch x15.1 x16.Got x16.Used)).set x1.1.toNat (S_Conn.mk x17.Id x17.Origin x17.Fetch x17.Reader true x17.Used)).set x1.1.toNat (S_Conn.mk x33.Id x33.Origin (S_Fetch.mk (0 : Int) ([] : Bytes) ([] : Bytes) ([] : Bytes) false (0 : Int) false) x33.Reader x33.Got x33.Used)) x1.1).bind fun x34 =>
      (idx ((((a0.Conns.set x1.1.toNat (S_Conn.mk x16.Id x16.Origin x16.Fetch x15.1 x16.Got x16.Used)).set x1.1.toNat (S_Conn.mk x17.Id x17.Origin x17.Fetch x17.Reader true x17.Used)).set x1.1.toNat (S_Conn.mk x33.Id x33.Origin (S_Fetch.mk (0 : Int) ([] : Bytes) ([] : Bytes) ([] : Bytes) false (0 : Int) false) x33.Reader x33.Got x33.Used)).set x1.1.toNat (S_Conn.mk x34.Id x34.Origin x34.Fetch (S_Reader.mk false ([] : Bytes) ([] : Bytes) false (S_Message.mk (S_Start.mk ([] : Bytes) ([] : Bytes) (0 : Int) ([] : Bytes) (0 : Int)) ([] : List S_Field) ([] : Bytes)) (S_Body.mk (0 : Int) (0 : Int)) (S_Chunked.mk (0 : Int) ([] : Bytes) (0 : Int) (0 : Int)) (0 : Int)) x34.Got x34.Used)) x1.1).bind fun x35 =>
      (idx (((((a0.Conns.set x1.1.toNat (S_Conn.mk x16.Id x16.Origin x16.Fetch x15.1 x16.Got x16.Used)).set x1.1.toNat (S_Conn.mk x17.Id x17.Origin x17.Fetch x17.Reader true x17.Used)).set x1.1.toNat (S_Conn.mk x33.Id x33.Origin (S_Fetch.mk (0 : Int) ([] : Bytes) ([] : Bytes) ([] : Bytes) false (0 : Int) false) x33.Reader x33.Got x33.Used)).set x1.1.toNat (S_Conn.mk x34.Id x34.Origin x34.Fetch (S_Reader.mk false ([] : Bytes) ([] : Bytes) false (S_Message.mk (S_Start.mk ([] : Bytes) ([] : Bytes) (0 : Int) ([] : Bytes) (0 : Int)) ([] : List S_Field) ([] : Bytes)) (S_Body.mk (0 : Int) (0 : Int)) (S_Chunked.mk (0 : Int) ([] : Bytes) (0 : Int) (0 : Int)) (0 : Int)) x34.Got x34.Used)).set x1.1.toNat (S_Conn.mk x35.Id x35.Origin x35.Fetch x35.Reader false x35.Used)) x1.1).bind fun x36 =>
      (idx (((((a0.Conns.set x1.1.toNat (S_Conn.mk x16.Id x16.Origin x16.Fetch x15.1 x16.Got x16.Used)).set x1.1.toNat (S_Conn.mk x17.Id x17.Origin x17.Fetch x17.Reader true x17.Used)).set x1.1.toNat (S_Conn.mk x33.Id x33.Origin (S_Fetch.mk (0 : Int) ([] : Bytes) ([] : Bytes) ([] : Bytes) false (0 : Int) false) x33.Reader x33.Got x33.Used)).set x1.1.toNat (S_Conn.mk x34.Id x34.Origin x34.Fetch (S_Reader.mk false ([] : Bytes) ([] : Bytes) false (S_Message.mk (S_Start.mk ([] : Bytes) ([] : Bytes) (0 : Int) ([] : Bytes) (0 : Int)) ([] : List S_Field) ([] : Bytes)) (S_Body.mk (0 : Int) (0 : Int)) (S_Chunked.mk (0 : Int) ([] : Bytes) (0 : Int) (0 : Int)) (0 : Int)) x34.Got x34.Used)).set x1.1.toNat (S_Conn.mk x35.Id x35.Origin x35.Fetch x35.Reader false x35.Used)) x1.1).bind fun x37 =>
      (loopO (upstream_Recv_b3 a0) (0 : Int) : Option Unit).bind fun j38 =>
      some ((S_Up.mk a0.Now a0.Next ((((((a0.Conns.set x1.1.toNat (S_Conn.mk x16.Id x16.Origin x16.Fetch x15.1 x16.Got x16.Used)).set x1.1.toNat (S_Conn.mk x17.Id x17.Origin x17.Fetch x17.Reader true x17.Used)).set x1.1.toNat (S_Conn.mk x33.Id x33.Origin (S_Fetch.mk (0 : Int) ([] : Bytes) ([] : Bytes) ([] : Bytes) false (0 : Int) false) x33.Reader x33.Got x33.Used)).set x1.1.toNat (S_Conn.mk x34.Id x34.Origin x34.Fetch (S_Reader.mk false ([] : Bytes) ([] : Bytes) false (S_Message.mk (S_Start.mk ([] : Bytes) ([] : Bytes) (0 : Int) ([] : Bytes) (0 : Int)) ([] : List S_Field) ([] : Bytes)) (S_Body.mk (0 : Int) (0 : Int)) (S_Chunked.mk (0 : Int) ([] : Bytes) (0 : Int) (0 : Int)) (0 : Int)) x34.Got x34.Used)).set x1.1.toNat (S_Conn.mk x35.Id x35.Origin x35.Fetch x35.Reader false x35.Used)).set x1.1.toNat (S_Conn.mk x37.Id x37.Origin x37.Fetch x37.Reader x37.Got (IntKind.i64.wrap (x36.Used + (1 : Int))))) a0.Wait), x22, (0 : Int))
    else
     bif (x15.1.Bad != (0 : Int)) then
      (idx ((a0.Conns.set x1.1.toNat (S_Conn.mk x16.Id x16.Origin x16.Fetch x15.1 x16.Got x16.Used)).set x1.1.toNat (S_Conn.mk x17.Id x17.Origin x17.Fetch x17.Reader true x17.Used)) x1.1).bind fun x40 =>
      (app 168 ([] : List S_Act) ([(S_Act.mk (4 : Int) (0 : Int) ([] : Bytes) ([] : Bytes) x40.Fetch.Id (S_Message.mk (S_Start.mk ([] : Bytes) ([] : Bytes) (0 : Int) ([] : Bytes) (0 : Int)) ([] : List S_Field) ([] : Bytes)) x15.1.Bad)] : List S_Act)).bind fun x41 =>
      chk (0 <= x1.1 /\ x1.1 < (a0.Conns.length : Int)) <|
      (idx ((a0.Conns.set x1.1.toNat (S_Conn.mk x16.Id x16.Origin x16.Fetch x15.1 x16.Got x16.Used)).set x1.1.toNat (S_Conn.mk x17.Id x17.Origin x17.Fetch x17.Reader true x17.Used)) x1.1).bind fun x43 =>
      (app 168 x41 ([(S_Act.mk (3 : Int) x43.Id ([] : Bytes) ([] : Bytes) (0 : Int) (S_Message.mk (S_Start.mk ([] : Bytes) ([] : Bytes) (0 : Int) ([] : Bytes) (0 : Int)) ([] : List S_Field) ([] : Bytes)) (0 : Int))] : List S_Act)).bind fun x44 =>
      (del ((a0.Conns.set x1.1.toNat (S_Conn.mk x16.Id x16.Origin x16.Fetch x15.1 x16.Got x16.Used)).set x1.1.toNat (S_Conn.mk x17.Id x17.Origin x17.Fetch x17.Reader true x17.Used)) x1.1 (IntKind.i64.wrap (x1.1 + (1 : Int)))).bind fun x45 =>
      (loopO (upstream_Recv_b4 a0) (0 : Int) : Option Unit).bind fun j46 =>
      some ((S_Up.mk a0.Now a0.Next x45 a0.Wait), x44, (0 : Int))
     else
      (loopO (upstream_Recv_b5 a0) (0 : Int) : Option Unit).bind fun j48 =>
      some ((S_Up.mk a0.Now a0.Next ((a0.Conns.set x1.1.toNat (S_Conn.mk x16.Id x16.Origin x16.Fetch x15.1 x16.Got x16.Used)).set x1.1.toNat (S_Conn.mk x17.Id x17.Origin x17.Fetch x17.Reader true x17.Used)) a0.Wait), ([] : List S_Act), (0 : Int))
noncomputable def wire_Close (a0 : S_Reader) : Option ((List S_Message) × Int) :=
 (wire_Right a0).bind fun x1 =>
 bif (!x1) then
  some (([] : List S_Message), (1 : Int))
 else
  bif (a0.Bad != (0 : Int)) then
   some (([] : List S_Message), a0.Bad)
  else
   bif (bif a0.In then (a0.Body.Kind == (3 : Int)) else false) then
    some (([a0.Head] : List S_Message), (0 : Int))
   else
    bif (bif a0.In then true else (!(a0.Buf == ([] : Bytes)))) then
     some (([] : List S_Message), (3 : Int))
    else
     some (([] : List S_Message), (0 : Int))
noncomputable def upstream_Gone_b1 (a0 : S_Up) (s10 : Int) : Option (Int ⊕ Unit) :=
 bif (decide (s10 < (a0.Wait.length : Int))) then
  none
 else
  some (.inr ())
noncomputable def upstream_Gone_b2 (a0 : S_Up) (s15 : Int) : Option (Int ⊕ Unit) :=
 bif (decide (s15 < (a0.Wait.length : Int))) then
  none
 else
  some (.inr ())
noncomputable def upstream_Gone_b3 (a0 : S_Up) (s26 : Int) : Option (Int ⊕ Unit) :=
 bif (decide (s26 < (a0.Wait.length : Int))) then
  none
 else
  some (.inr ())
noncomputable def upstream_Gone_b4 (a0 : S_Up) (s29 : Int) : Option (Int ⊕ Unit) :=
 bif (decide (s29 < (a0.Wait.length : Int))) then
  none
 else
  some (.inr ())
noncomputable def upstream_Gone (a0 : S_Up) (a1 : Int) (a2 : Bool) : Option (S_Up × (List S_Act) × Int) :=
 (upstream_find a0 a1).bind fun x1 =>
 (upstream_Right a0).bind fun x2 =>
 bif (bif (!x2) then true else (!x1.2)) then
  some ((S_Up.mk (0 : Int) (0 : Int) ([] : List S_Conn) ([] : List S_Fetch)), ([] : List S_Act), (1 : Int))
 else
  (chk2 (a0.Conns.length <= maxLen /\ a0.Conns.length * 336 <= 140737488355328)).bind fun x3 =>
  (chk2 (a0.Wait.length <= maxLen /\ a0.Wait.length * 80 <= 140737488355328)).bind fun x4 =>
  chk (0 <= x1.1 /\ x1.1 < (a0.Conns.length : Int)) <|
  (idx a0.Conns x1.1).bind fun x6 =>
  (del a0.Conns x1.1 (IntKind.i64.wrap (x1.1 + (1 : Int)))).bind fun x7 =>
  (upstream_idle x6).bind fun x8 =>
  bif x8 then
   (loopO (upstream_Gone_b1 a0) (0 : Int) : Option Unit).bind fun j9 =>
   some ((S_Up.mk a0.Now a0.Next x7 a0.Wait), ([] : List S_Act), (0 : Int))
  else
   (wire_Close x6.Reader).bind fun x11 =>
   bif (bif a2 then (decide ((x11.1.length : Int) > (0 : Int))) else false) then
    (idx x11.1 (0 : Int)).bind fun x12 =>
    (app 168 ([] : List S_Act) ([(S_Act.mk (4 : Int) (0 : Int) ([] : Bytes) ([] : Bytes) x6.Fetch.Id x12 (0 : Int))] : List S_Act)).bind fun x13 =>
    (loopO (upstream_Gone_b2 a0) (0 : Int) : Option Unit).bind fun j14 =>
    some ((S_Up.mk a0.Now a0.Next x7 a0.Wait), x13, (0 : Int))
   else
    bif (bif (bif (bif (bif x6.Fetch.Again then (!x6.Fetch.Tried) else false) then (decide (x6.Used > (0 : Int))) else false) then (!x6.Got) else false) then (decide (a0.Next < (1000000000 : Int))) else false) then
     (app 336 x7 ([(S_Conn.mk (IntKind.i64.wrap (a0.Next + (1 : Int))) x6.Fetch.Origin (S_Fetch.mk (0 : Int) ([] : Bytes) ([] : Bytes) ([] : Bytes) false (0 : Int) false) (S_Reader.mk false ([] : Bytes) ([] : Bytes) false (S_Message.mk (S_Start.mk ([] : Bytes) ([] : Bytes) (0 : Int) ([] : Bytes) (0 : Int)) ([] : List S_Field) ([] : Bytes)) (S_Body.mk (0 : Int) (0 : Int)) (S_Chunked.mk (0 : Int) ([] : Bytes) (0 : Int) (0 : Int)) (0 : Int)) false (0 : Int))] : List S_Conn)).bind fun x16 =>
     (app 168 ([] : List S_Act) ([(S_Act.mk (1 : Int) (IntKind.i64.wrap (a0.Next + (1 : Int))) x6.Fetch.Origin ([] : Bytes) (0 : Int) (S_Message.mk (S_Start.mk ([] : Bytes) ([] : Bytes) (0 : Int) ([] : Bytes) (0 : Int)) ([] : List S_Field) ([] : Bytes)) (0 : Int))] : List S_Act)).bind fun x17 =>
     chk (0 <= (IntKind.i64.wrap ((x16.length : Int) - (1 : Int))) /\ (IntKind.i64.wrap ((x16.length : Int) - (1 : Int))) < (x16.length : Int)) <|
     (wire_New false x6.Fetch.Method).bind fun x19 =>
     (idx x16 (IntKind.i64.wrap ((x16.length : Int) - (1 : Int)))).bind fun x20 =>
     (idx (x16.set (IntKind.i64.wrap ((x16.length : Int) - (1 : Int))).toNat (S_Conn.mk x20.Id x20.Origin (S_Fetch.mk x6.Fetch.Id x6.Fetch.Origin x6.Fetch.Bytes x6.Fetch.Method x6.Fetch.Again x6.Fetch.Due true) x20.Reader x20.Got x20.Used)) (IntKind.i64.wrap ((x16.length : Int) - (1 : Int)))).bind fun x21 =>
     (idx ((x16.set (IntKind.i64.wrap ((x16.length : Int) - (1 : Int))).toNat (S_Conn.mk x20.Id x20.Origin (S_Fetch.mk x6.Fetch.Id x6.Fetch.Origin x6.Fetch.Bytes x6.Fetch.Method x6.Fetch.Again x6.Fetch.Due true) x20.Reader x20.Got x20.Used)).set (IntKind.i64.wrap ((x16.length : Int) - (1 : Int))).toNat (S_Conn.mk x21.Id x21.Origin x21.Fetch x19 x21.Got x21.Used)) (IntKind.i64.wrap ((x16.length : Int) - (1 : Int)))).bind fun x22 =>
     (idx (((x16.set (IntKind.i64.wrap ((x16.length : Int) - (1 : Int))).toNat (S_Conn.mk x20.Id x20.Origin (S_Fetch.mk x6.Fetch.Id x6.Fetch.Origin x6.Fetch.Bytes x6.Fetch.Method x6.Fetch.Again x6.Fetch.Due true) x20.Reader x20.Got x20.Used)).set (IntKind.i64.wrap ((x16.length : Int) - (1 : Int))).toNat (S_Conn.mk x21.Id x21.Origin x21.Fetch x19 x21.Got x21.Used)).set (IntKind.i64.wrap ((x16.length : Int) - (1 : Int))).toNat (S_Conn.mk x22.Id x22.Origin x22.Fetch x22.Reader false x22.Used)) (IntKind.i64.wrap ((x16.length : Int) - (1 : Int)))).bind fun x23 =>
     (app 168 x17 ([(S_Act.mk (2 : Int) x23.Id ([] : Bytes) x6.Fetch.Bytes (0 : Int) (S_Message.mk (S_Start.mk ([] : Bytes) ([] : Bytes) (0 : Int) ([] : Bytes) (0 : Int)) ([] : List S_Field) ([] : Bytes)) (0 : Int))] : List S_Act)).bind fun x24 =>
     (loopO (upstream_Gone_b3 a0) (0 : Int) : Option Unit).bind fun j25 =>
     some ((S_Up.mk a0.Now (IntKind.i64.wrap (a0.Next + (1 : Int))) (((x16.set (IntKind.i64.wrap ((x16.length : Int) - (1 : Int))).toNat (S_Conn.mk x20.Id x20.Origin (S_Fetch.mk x6.Fetch.Id x6.Fetch.Origin x6.Fetch.Bytes x6.Fetch.Method x6.Fetch.Again x6.Fetch.Due true) x20.Reader x20.Got x20.Used)).set (IntKind.i64.wrap ((x16.length : Int) - (1 : Int))).toNat (S_Conn.mk x21.Id x21.Origin x21.Fetch x19 x21.Got x21.Used)).set (IntKind.i64.wrap ((x16.length : Int) - (1 : Int))).toNat (S_Conn.mk x22.Id x22.Origin x22.Fetch x22.Reader false x22.Used)) a0.Wait), x24, (0 : Int))
    else
     (app 168 ([] : List S_Act) ([(S_Act.mk (4 : Int) (0 : Int) ([] : Bytes) ([] : Bytes) x6.Fetch.Id (S_Message.mk (S_Start.mk ([] : Bytes) ([] : Bytes) (0 : Int) ([] : Bytes) (0 : Int)) ([] : List S_Field) ([] : Bytes)) (63 : Int))] : List S_Act)).bind fun x27 =>
     (loopO (upstream_Gone_b4 a0) (0 : Int) : Option Unit).bind fun j28 =>
     some ((S_Up.mk a0.Now a0.Next x7 a0.Wait), x27, (0 : Int))
noncomputable def intarsialaw22_alive : Option Bool :=
 (upstream_Ask (S_Up.mk (0 : Int) (0 : Int) ([] : List S_Conn) ([] : List S_Fetch)) (S_Fetch.mk (1 : Int) ([111] : Bytes) ([98] : Bytes) ([71, 69, 84] : Bytes) false (0 : Int) false)).bind fun x1 =>
 (gidx (bif (x1.2.2 == (0 : Int)) then ((x1.2.1.length : Int) == (2 : Int)) else false) x1.2.1 (0 : Int)).bind fun x2 =>
 (gidx (bif (bif (x1.2.2 == (0 : Int)) then ((x1.2.1.length : Int) == (2 : Int)) else false) then (x2.Kind == (1 : Int)) else false) x1.2.1 (1 : Int)).bind fun x3 =>
 (gidx (bif (bif (bif (x1.2.2 == (0 : Int)) then ((x1.2.1.length : Int) == (2 : Int)) else false) then (x2.Kind == (1 : Int)) else false) then (x3.Kind == (2 : Int)) else false) x1.2.1 (1 : Int)).bind fun x4 =>
 some (bif (bif (bif (bif (x1.2.2 == (0 : Int)) then ((x1.2.1.length : Int) == (2 : Int)) else false) then (x2.Kind == (1 : Int)) else false) then (x3.Kind == (2 : Int)) else false) then (x4.Bytes == ([98] : Bytes)) else false)
noncomputable def intarsialaw22_UpstreamAgain (a0 : S_Fetch) (a1 : Bool) (a2 : Bool) (a3 : Bytes) : Option Bool :=
 (intarsialaw22_few a0).bind fun x1 =>
 (cat ([98] : Bytes) x1.Bytes).bind fun x2 =>
 bif a2 then
  (upstream_Ask (S_Up.mk (0 : Int) (0 : Int) ([] : List S_Conn) ([] : List S_Fetch)) (S_Fetch.mk (2 : Int) ([111] : Bytes) ([120] : Bytes) ([71, 69, 84] : Bytes) false (0 : Int) false)).bind fun x3 =>
  (upstream_Recv x3.1 (1 : Int) ([72, 84, 84, 80, 47, 49, 46, 49, 32, 50, 48, 48, 32, 79, 75, 13, 10, 67, 111, 110, 116, 101, 110, 116, 45, 76, 101, 110, 103, 116, 104, 58, 32, 48, 13, 10, 13, 10] : Bytes)).bind fun x4 =>
  (gidx (!(bif (bif (x3.2.2 != (0 : Int)) then true else (x4.2.2 != (0 : Int))) then true else ((x4.2.1.length : Int) != (1 : Int)))) x4.2.1 (0 : Int)).bind fun x5 =>
  (gidx (!(bif (bif (bif (x3.2.2 != (0 : Int)) then true else (x4.2.2 != (0 : Int))) then true else ((x4.2.1.length : Int) != (1 : Int))) then true else (x5.Kind != (4 : Int)))) x4.2.1 (0 : Int)).bind fun x6 =>
  bif (bif (bif (bif (bif (x3.2.2 != (0 : Int)) then true else (x4.2.2 != (0 : Int))) then true else ((x4.2.1.length : Int) != (1 : Int))) then true else (x5.Kind != (4 : Int))) then true else (x6.Bad != (0 : Int))) then
   some false
  else
   (upstream_Ask x4.1 (S_Fetch.mk (1 : Int) ([111] : Bytes) x2 ([71, 69, 84] : Bytes) a1 x1.Due x1.Tried)).bind fun x7 =>
   (gidx (!(bif (x7.2.2 != (0 : Int)) then true else ((x7.1.Conns.length : Int) != (1 : Int)))) x7.1.Conns (0 : Int)).bind fun x8 =>
   (gidx (!(bif (bif (bif (x7.2.2 != (0 : Int)) then true else ((x7.1.Conns.length : Int) != (1 : Int))) then true else (x8.Id != (1 : Int))) then true else ((x7.2.1.length : Int) == (0 : Int)))) x7.2.1 (IntKind.i64.wrap ((x7.2.1.length : Int) - (1 : Int)))).bind fun x9 =>
   bif (bif (bif (bif (bif (x7.2.2 != (0 : Int)) then true else ((x7.1.Conns.length : Int) != (1 : Int))) then true else (x8.Id != (1 : Int))) then true else ((x7.2.1.length : Int) == (0 : Int))) then true else (!(x9.Bytes == x2))) then
    some false
   else
    bif (decide ((a3.length : Int) > (0 : Int))) then
     (upstream_Recv x7.1 (1 : Int) ([72] : Bytes)).bind fun x10 =>
     bif (bif (x10.2.2 != (0 : Int)) then true else ((x10.2.1.length : Int) != (0 : Int))) then
      some false
     else
      (upstream_Gone x10.1 (1 : Int) false).bind fun x11 =>
      (gcall (!(x11.2.2 != (0 : Int))) intarsialaw22_alive).bind fun x12 =>
      bif (bif (x11.2.2 != (0 : Int)) then true else (!x12)) then
       some false
      else
       bif (bif (bif (!a1) then true else (!a2)) then true else (decide ((a3.length : Int) > (0 : Int)))) then
        (gidx ((x11.2.1.length : Int) == (1 : Int)) x11.2.1 (0 : Int)).bind fun x13 =>
        (gidx (bif ((x11.2.1.length : Int) == (1 : Int)) then (x13.Kind == (4 : Int)) else false) x11.2.1 (0 : Int)).bind fun x14 =>
        (gidx (bif (bif ((x11.2.1.length : Int) == (1 : Int)) then (x13.Kind == (4 : Int)) else false) then (x14.Bad == (63 : Int)) else false) x11.2.1 (0 : Int)).bind fun x15 =>
        some (bif (bif (bif (bif ((x11.2.1.length : Int) == (1 : Int)) then (x13.Kind == (4 : Int)) else false) then (x14.Bad == (63 : Int)) else false) then (x15.Fetch == (1 : Int)) else false) then ((x11.1.Conns.length : Int) == (0 : Int)) else false)
       else
        (gidx (!((x11.2.1.length : Int) != (2 : Int))) x11.2.1 (0 : Int)).bind fun x16 =>
        (gidx (!(bif ((x11.2.1.length : Int) != (2 : Int)) then true else (x16.Kind != (1 : Int)))) x11.2.1 (0 : Int)).bind fun x17 =>
        (gidx (!(bif (bif ((x11.2.1.length : Int) != (2 : Int)) then true else (x16.Kind != (1 : Int))) then true else (x17.Conn != (2 : Int)))) x11.2.1 (1 : Int)).bind fun x18 =>
        (gidx (!(bif (bif (bif ((x11.2.1.length : Int) != (2 : Int)) then true else (x16.Kind != (1 : Int))) then true else (x17.Conn != (2 : Int))) then true else (x18.Kind != (2 : Int)))) x11.2.1 (1 : Int)).bind fun x19 =>
        bif (bif (bif (bif (bif ((x11.2.1.length : Int) != (2 : Int)) then true else (x16.Kind != (1 : Int))) then true else (x17.Conn != (2 : Int))) then true else (x18.Kind != (2 : Int))) then true else (!(x19.Bytes == x2))) then
         some false
        else
         (upstream_Gone x11.1 (2 : Int) false).bind fun x20 =>
         (gidx (bif (x20.2.2 == (0 : Int)) then ((x20.2.1.length : Int) == (1 : Int)) else false) x20.2.1 (0 : Int)).bind fun x21 =>
         (gidx (bif (bif (x20.2.2 == (0 : Int)) then ((x20.2.1.length : Int) == (1 : Int)) else false) then (x21.Kind == (4 : Int)) else false) x20.2.1 (0 : Int)).bind fun x22 =>
         some (bif (bif (bif (x20.2.2 == (0 : Int)) then ((x20.2.1.length : Int) == (1 : Int)) else false) then (x21.Kind == (4 : Int)) else false) then (x22.Bad == (63 : Int)) else false)
    else
     (upstream_Gone x7.1 (1 : Int) false).bind fun x23 =>
     (gcall (!(x23.2.2 != (0 : Int))) intarsialaw22_alive).bind fun x24 =>
     bif (bif (x23.2.2 != (0 : Int)) then true else (!x24)) then
      some false
     else
      bif (bif (bif (!a1) then true else (!a2)) then true else (decide ((a3.length : Int) > (0 : Int)))) then
       (gidx ((x23.2.1.length : Int) == (1 : Int)) x23.2.1 (0 : Int)).bind fun x25 =>
       (gidx (bif ((x23.2.1.length : Int) == (1 : Int)) then (x25.Kind == (4 : Int)) else false) x23.2.1 (0 : Int)).bind fun x26 =>
       (gidx (bif (bif ((x23.2.1.length : Int) == (1 : Int)) then (x25.Kind == (4 : Int)) else false) then (x26.Bad == (63 : Int)) else false) x23.2.1 (0 : Int)).bind fun x27 =>
       some (bif (bif (bif (bif ((x23.2.1.length : Int) == (1 : Int)) then (x25.Kind == (4 : Int)) else false) then (x26.Bad == (63 : Int)) else false) then (x27.Fetch == (1 : Int)) else false) then ((x23.1.Conns.length : Int) == (0 : Int)) else false)
      else
       (gidx (!((x23.2.1.length : Int) != (2 : Int))) x23.2.1 (0 : Int)).bind fun x28 =>
       (gidx (!(bif ((x23.2.1.length : Int) != (2 : Int)) then true else (x28.Kind != (1 : Int)))) x23.2.1 (0 : Int)).bind fun x29 =>
       (gidx (!(bif (bif ((x23.2.1.length : Int) != (2 : Int)) then true else (x28.Kind != (1 : Int))) then true else (x29.Conn != (2 : Int)))) x23.2.1 (1 : Int)).bind fun x30 =>
       (gidx (!(bif (bif (bif ((x23.2.1.length : Int) != (2 : Int)) then true else (x28.Kind != (1 : Int))) then true else (x29.Conn != (2 : Int))) then true else (x30.Kind != (2 : Int)))) x23.2.1 (1 : Int)).bind fun x31 =>
       bif (bif (bif (bif (bif ((x23.2.1.length : Int) != (2 : Int)) then true else (x28.Kind != (1 : Int))) then true else (x29.Conn != (2 : Int))) then true else (x30.Kind != (2 : Int))) then true else (!(x31.Bytes == x2))) then
        some false
       else
        (upstream_Gone x23.1 (2 : Int) false).bind fun x32 =>
        (gidx (bif (x32.2.2 == (0 : Int)) then ((x32.2.1.length : Int) == (1 : Int)) else false) x32.2.1 (0 : Int)).bind fun x33 =>
        (gidx (bif (bif (x32.2.2 == (0 : Int)) then ((x32.2.1.length : Int) == (1 : Int)) else false) then (x33.Kind == (4 : Int)) else false) x32.2.1 (0 : Int)).bind fun x34 =>
        some (bif (bif (bif (x32.2.2 == (0 : Int)) then ((x32.2.1.length : Int) == (1 : Int)) else false) then (x33.Kind == (4 : Int)) else false) then (x34.Bad == (63 : Int)) else false)
 else
  (upstream_Ask (S_Up.mk (0 : Int) (0 : Int) ([] : List S_Conn) ([] : List S_Fetch)) (S_Fetch.mk (1 : Int) ([111] : Bytes) x2 ([71, 69, 84] : Bytes) a1 x1.Due x1.Tried)).bind fun x35 =>
  (gidx (!(bif (x35.2.2 != (0 : Int)) then true else ((x35.1.Conns.length : Int) != (1 : Int)))) x35.1.Conns (0 : Int)).bind fun x36 =>
  (gidx (!(bif (bif (bif (x35.2.2 != (0 : Int)) then true else ((x35.1.Conns.length : Int) != (1 : Int))) then true else (x36.Id != (1 : Int))) then true else ((x35.2.1.length : Int) == (0 : Int)))) x35.2.1 (IntKind.i64.wrap ((x35.2.1.length : Int) - (1 : Int)))).bind fun x37 =>
  bif (bif (bif (bif (bif (x35.2.2 != (0 : Int)) then true else ((x35.1.Conns.length : Int) != (1 : Int))) then true else (x36.Id != (1 : Int))) then true else ((x35.2.1.length : Int) == (0 : Int))) then true else (!(x37.Bytes == x2))) then
   some false
  else
   bif (decide ((a3.length : Int) > (0 : Int))) then
    (upstream_Recv x35.1 (1 : Int) ([72] : Bytes)).bind fun x38 =>
    bif (bif (x38.2.2 != (0 : Int)) then true else ((x38.2.1.length : Int) != (0 : Int))) then
     some false
    else
     (upstream_Gone x38.1 (1 : Int) false).bind fun x39 =>
     (gcall (!(x39.2.2 != (0 : Int))) intarsialaw22_alive).bind fun x40 =>
     bif (bif (x39.2.2 != (0 : Int)) then true else (!x40)) then
      some false
     else
      bif (bif (bif (!a1) then true else (!a2)) then true else (decide ((a3.length : Int) > (0 : Int)))) then
       (gidx ((x39.2.1.length : Int) == (1 : Int)) x39.2.1 (0 : Int)).bind fun x41 =>
       (gidx (bif ((x39.2.1.length : Int) == (1 : Int)) then (x41.Kind == (4 : Int)) else false) x39.2.1 (0 : Int)).bind fun x42 =>
       (gidx (bif (bif ((x39.2.1.length : Int) == (1 : Int)) then (x41.Kind == (4 : Int)) else false) then (x42.Bad == (63 : Int)) else false) x39.2.1 (0 : Int)).bind fun x43 =>
       some (bif (bif (bif (bif ((x39.2.1.length : Int) == (1 : Int)) then (x41.Kind == (4 : Int)) else false) then (x42.Bad == (63 : Int)) else false) then (x43.Fetch == (1 : Int)) else false) then ((x39.1.Conns.length : Int) == (0 : Int)) else false)
      else
       (gidx (!((x39.2.1.length : Int) != (2 : Int))) x39.2.1 (0 : Int)).bind fun x44 =>
       (gidx (!(bif ((x39.2.1.length : Int) != (2 : Int)) then true else (x44.Kind != (1 : Int)))) x39.2.1 (0 : Int)).bind fun x45 =>
       (gidx (!(bif (bif ((x39.2.1.length : Int) != (2 : Int)) then true else (x44.Kind != (1 : Int))) then true else (x45.Conn != (2 : Int)))) x39.2.1 (1 : Int)).bind fun x46 =>
       (gidx (!(bif (bif (bif ((x39.2.1.length : Int) != (2 : Int)) then true else (x44.Kind != (1 : Int))) then true else (x45.Conn != (2 : Int))) then true else (x46.Kind != (2 : Int)))) x39.2.1 (1 : Int)).bind fun x47 =>
       bif (bif (bif (bif (bif ((x39.2.1.length : Int) != (2 : Int)) then true else (x44.Kind != (1 : Int))) then true else (x45.Conn != (2 : Int))) then true else (x46.Kind != (2 : Int))) then true else (!(x47.Bytes == x2))) then
        some false
       else
        (upstream_Gone x39.1 (2 : Int) false).bind fun x48 =>
        (gidx (bif (x48.2.2 == (0 : Int)) then ((x48.2.1.length : Int) == (1 : Int)) else false) x48.2.1 (0 : Int)).bind fun x49 =>
        (gidx (bif (bif (x48.2.2 == (0 : Int)) then ((x48.2.1.length : Int) == (1 : Int)) else false) then (x49.Kind == (4 : Int)) else false) x48.2.1 (0 : Int)).bind fun x50 =>
        some (bif (bif (bif (x48.2.2 == (0 : Int)) then ((x48.2.1.length : Int) == (1 : Int)) else false) then (x49.Kind == (4 : Int)) else false) then (x50.Bad == (63 : Int)) else false)
   else
    (upstream_Gone x35.1 (1 : Int) false).bind fun x51 =>
    (gcall (!(x51.2.2 != (0 : Int))) intarsialaw22_alive).bind fun x52 =>
    bif (bif (x51.2.2 != (0 : Int)) then true else (!x52)) then
     some false
    else
     bif (bif (bif (!a1) then true else (!a2)) then true else (decide ((a3.length : Int) > (0 : Int)))) then
      (gidx ((x51.2.1.length : Int) == (1 : Int)) x51.2.1 (0 : Int)).bind fun x53 =>
      (gidx (bif ((x51.2.1.length : Int) == (1 : Int)) then (x53.Kind == (4 : Int)) else false) x51.2.1 (0 : Int)).bind fun x54 =>
      (gidx (bif (bif ((x51.2.1.length : Int) == (1 : Int)) then (x53.Kind == (4 : Int)) else false) then (x54.Bad == (63 : Int)) else false) x51.2.1 (0 : Int)).bind fun x55 =>
      some (bif (bif (bif (bif ((x51.2.1.length : Int) == (1 : Int)) then (x53.Kind == (4 : Int)) else false) then (x54.Bad == (63 : Int)) else false) then (x55.Fetch == (1 : Int)) else false) then ((x51.1.Conns.length : Int) == (0 : Int)) else false)
     else
      (gidx (!((x51.2.1.length : Int) != (2 : Int))) x51.2.1 (0 : Int)).bind fun x56 =>
      (gidx (!(bif ((x51.2.1.length : Int) != (2 : Int)) then true else (x56.Kind != (1 : Int)))) x51.2.1 (0 : Int)).bind fun x57 =>
      (gidx (!(bif (bif ((x51.2.1.length : Int) != (2 : Int)) then true else (x56.Kind != (1 : Int))) then true else (x57.Conn != (2 : Int)))) x51.2.1 (1 : Int)).bind fun x58 =>
      (gidx (!(bif (bif (bif ((x51.2.1.length : Int) != (2 : Int)) then true else (x56.Kind != (1 : Int))) then true else (x57.Conn != (2 : Int))) then true else (x58.Kind != (2 : Int)))) x51.2.1 (1 : Int)).bind fun x59 =>
      bif (bif (bif (bif (bif ((x51.2.1.length : Int) != (2 : Int)) then true else (x56.Kind != (1 : Int))) then true else (x57.Conn != (2 : Int))) then true else (x58.Kind != (2 : Int))) then true else (!(x59.Bytes == x2))) then
       some false
      else
       (upstream_Gone x51.1 (2 : Int) false).bind fun x60 =>
       (gidx (bif (x60.2.2 == (0 : Int)) then ((x60.2.1.length : Int) == (1 : Int)) else false) x60.2.1 (0 : Int)).bind fun x61 =>
       (gidx (bif (bif (x60.2.2 == (0 : Int)) then ((x60.2.1.length : Int) == (1 : Int)) else false) then (x61.Kind == (4 : Int)) else false) x60.2.1 (0 : Int)).bind fun x62 =>
       some (bif (bif (bif (x60.2.2 == (0 : Int)) then ((x60.2.1.length : Int) == (1 : Int)) else false) then (x61.Kind == (4 : Int)) else false) then (x62.Bad == (63 : Int)) else false)
end Go.Proofs.YtommkfooolabhaaGreatDoor
