/-
  The plain images of the functions, written by a program of mine (gen.py) off the translation.
-/
import Derived.Test.YtommkfooolabhaaGreatDoorGi3
import Derived.Test.YtommkfooolabhaaGreatDoorIh1
import Derived.Test.YtommkfooolabhaaGreatDoorGi1
import Derived.Test.YtommkfooolabhaaGreatDoorGd1
namespace Go.Proofs.YtommkfooolabhaaGreatDoor
open Go Go.Pm
set_option linter.unusedSimpArgs false
set_option linter.unusedVariables false
structure S_Fetch where
 Id : Int
 Origin : (List UInt8)
 Bytes : (List UInt8)
 Method : (List UInt8)
 Again : Bool
 Due : Int
 Tried : Bool
instance : Inhabited S_Fetch := ⟨⟨default, default, default, default, default, default, default⟩⟩
def S_Fetch.cells (x : S_Fetch) : List AV := [AV.int .i64 x.Id, AV.str x.Origin, AV.str x.Bytes, AV.str x.Method, AV.bool x.Again, AV.int .i64 x.Due, AV.bool x.Tried]
def S_Fetch.av (x : S_Fetch) : AV := .agg (S_Fetch.cells x)
abbrev S_Fetch.z : S_Fetch := S_Fetch.mk (0 : Int) ([] : List UInt8) ([] : List UInt8) ([] : List UInt8) false (0 : Int) false
abbrev S_Fetch.w0 (x : S_Fetch) (v : Int) : S_Fetch := S_Fetch.mk v x.Origin x.Bytes x.Method x.Again x.Due x.Tried
abbrev S_Fetch.w1 (x : S_Fetch) (v : (List UInt8)) : S_Fetch := S_Fetch.mk x.Id v x.Bytes x.Method x.Again x.Due x.Tried
abbrev S_Fetch.w2 (x : S_Fetch) (v : (List UInt8)) : S_Fetch := S_Fetch.mk x.Id x.Origin v x.Method x.Again x.Due x.Tried
abbrev S_Fetch.w3 (x : S_Fetch) (v : (List UInt8)) : S_Fetch := S_Fetch.mk x.Id x.Origin x.Bytes v x.Again x.Due x.Tried
abbrev S_Fetch.w4 (x : S_Fetch) (v : Bool) : S_Fetch := S_Fetch.mk x.Id x.Origin x.Bytes x.Method v x.Due x.Tried
abbrev S_Fetch.w5 (x : S_Fetch) (v : Int) : S_Fetch := S_Fetch.mk x.Id x.Origin x.Bytes x.Method x.Again v x.Tried
abbrev S_Fetch.w6 (x : S_Fetch) (v : Bool) : S_Fetch := S_Fetch.mk x.Id x.Origin x.Bytes x.Method x.Again x.Due v
structure S_Start where
 Method : Bytes
 Target : Bytes
 Code : Int
 Reason : Bytes
 Minor : Int
instance : Inhabited S_Start := ⟨⟨default, default, default, default, default⟩⟩
def S_Start.cells (x : S_Start) : List AV := [AV.str x.Method, AV.str x.Target, AV.int .i64 x.Code, AV.str x.Reason, AV.int .i64 x.Minor]
def S_Start.av (x : S_Start) : AV := .agg (S_Start.cells x)
abbrev S_Start.z : S_Start := S_Start.mk ([] : List UInt8) ([] : List UInt8) (0 : Int) ([] : List UInt8) (0 : Int)
abbrev S_Start.w0 (x : S_Start) (v : Bytes) : S_Start := S_Start.mk v x.Target x.Code x.Reason x.Minor
abbrev S_Start.w1 (x : S_Start) (v : Bytes) : S_Start := S_Start.mk x.Method v x.Code x.Reason x.Minor
abbrev S_Start.w2 (x : S_Start) (v : Int) : S_Start := S_Start.mk x.Method x.Target v x.Reason x.Minor
abbrev S_Start.w3 (x : S_Start) (v : Bytes) : S_Start := S_Start.mk x.Method x.Target x.Code v x.Minor
abbrev S_Start.w4 (x : S_Start) (v : Int) : S_Start := S_Start.mk x.Method x.Target x.Code x.Reason v
abbrev S_Field.z : S_Field := S_Field.mk ([] : List UInt8) ([] : List UInt8)
abbrev S_Field.w0 (x : S_Field) (v : Bytes) : S_Field := S_Field.mk v x.Value
abbrev S_Field.w1 (x : S_Field) (v : Bytes) : S_Field := S_Field.mk x.Name v
structure S_Message where
 Start : S_Start
 Fields : (List S_Field)
 Body : Bytes
instance : Inhabited S_Message := ⟨⟨default, default, default⟩⟩
def S_Message.cells (x : S_Message) : List AV := [AV.str x.Start.Method, AV.str x.Start.Target, AV.int .i64 x.Start.Code, AV.str x.Start.Reason, AV.int .i64 x.Start.Minor, AV.list 2 (x.Fields.map S_Field.av), AV.str x.Body]
def S_Message.av (x : S_Message) : AV := .agg (S_Message.cells x)
abbrev S_Message.z : S_Message := S_Message.mk S_Start.z ([] : List S_Field) ([] : List UInt8)
abbrev S_Message.w0 (x : S_Message) (v : S_Start) : S_Message := S_Message.mk v x.Fields x.Body
abbrev S_Message.w1 (x : S_Message) (v : (List S_Field)) : S_Message := S_Message.mk x.Start v x.Body
abbrev S_Message.w2 (x : S_Message) (v : Bytes) : S_Message := S_Message.mk x.Start x.Fields v
structure S_Body where
 Kind : Int
 Size : Int
instance : Inhabited S_Body := ⟨⟨default, default⟩⟩
def S_Body.cells (x : S_Body) : List AV := [AV.int .i64 x.Kind, AV.int .i64 x.Size]
def S_Body.av (x : S_Body) : AV := .agg (S_Body.cells x)
abbrev S_Body.z : S_Body := S_Body.mk (0 : Int) (0 : Int)
abbrev S_Body.w0 (x : S_Body) (v : Int) : S_Body := S_Body.mk v x.Size
abbrev S_Body.w1 (x : S_Body) (v : Int) : S_Body := S_Body.mk x.Kind v
structure S_Chunked where
 Stage : Int
 Line : Bytes
 Left : Int
 Size : Int
instance : Inhabited S_Chunked := ⟨⟨default, default, default, default⟩⟩
def S_Chunked.cells (x : S_Chunked) : List AV := [AV.int .i64 x.Stage, AV.str x.Line, AV.int .i64 x.Left, AV.int .i64 x.Size]
def S_Chunked.av (x : S_Chunked) : AV := .agg (S_Chunked.cells x)
abbrev S_Chunked.z : S_Chunked := S_Chunked.mk (0 : Int) ([] : List UInt8) (0 : Int) (0 : Int)
abbrev S_Chunked.w0 (x : S_Chunked) (v : Int) : S_Chunked := S_Chunked.mk v x.Line x.Left x.Size
abbrev S_Chunked.w1 (x : S_Chunked) (v : Bytes) : S_Chunked := S_Chunked.mk x.Stage v x.Left x.Size
abbrev S_Chunked.w2 (x : S_Chunked) (v : Int) : S_Chunked := S_Chunked.mk x.Stage x.Line v x.Size
abbrev S_Chunked.w3 (x : S_Chunked) (v : Int) : S_Chunked := S_Chunked.mk x.Stage x.Line x.Left v
structure S_Reader where
 Asks : Bool
 Method : Bytes
 Buf : Bytes
 In : Bool
 Head : S_Message
 Body : S_Body
 Chunk : S_Chunked
 Bad : Int
instance : Inhabited S_Reader := ⟨⟨default, default, default, default, default, default, default, default⟩⟩
def S_Reader.cells (x : S_Reader) : List AV := [AV.bool x.Asks, AV.str x.Method, AV.str x.Buf, AV.bool x.In, AV.str x.Head.Start.Method, AV.str x.Head.Start.Target, AV.int .i64 x.Head.Start.Code, AV.str x.Head.Start.Reason, AV.int .i64 x.Head.Start.Minor, AV.list 2 (x.Head.Fields.map S_Field.av), AV.str x.Head.Body, AV.int .i64 x.Body.Kind, AV.int .i64 x.Body.Size, AV.int .i64 x.Chunk.Stage, AV.str x.Chunk.Line, AV.int .i64 x.Chunk.Left, AV.int .i64 x.Chunk.Size, AV.int .i64 x.Bad]
def S_Reader.av (x : S_Reader) : AV := .agg (S_Reader.cells x)
abbrev S_Reader.z : S_Reader := S_Reader.mk false ([] : List UInt8) ([] : List UInt8) false S_Message.z S_Body.z S_Chunked.z (0 : Int)
abbrev S_Reader.w0 (x : S_Reader) (v : Bool) : S_Reader := S_Reader.mk v x.Method x.Buf x.In x.Head x.Body x.Chunk x.Bad
abbrev S_Reader.w1 (x : S_Reader) (v : Bytes) : S_Reader := S_Reader.mk x.Asks v x.Buf x.In x.Head x.Body x.Chunk x.Bad
abbrev S_Reader.w2 (x : S_Reader) (v : Bytes) : S_Reader := S_Reader.mk x.Asks x.Method v x.In x.Head x.Body x.Chunk x.Bad
abbrev S_Reader.w3 (x : S_Reader) (v : Bool) : S_Reader := S_Reader.mk x.Asks x.Method x.Buf v x.Head x.Body x.Chunk x.Bad
abbrev S_Reader.w4 (x : S_Reader) (v : S_Message) : S_Reader := S_Reader.mk x.Asks x.Method x.Buf x.In v x.Body x.Chunk x.Bad
abbrev S_Reader.w5 (x : S_Reader) (v : S_Body) : S_Reader := S_Reader.mk x.Asks x.Method x.Buf x.In x.Head v x.Chunk x.Bad
abbrev S_Reader.w6 (x : S_Reader) (v : S_Chunked) : S_Reader := S_Reader.mk x.Asks x.Method x.Buf x.In x.Head x.Body v x.Bad
structure S_Conn where
 Id : Int
 Origin : Bytes
 Fetch : S_Fetch
 Reader : S_Reader
 Got : Bool
 Used : Int
instance : Inhabited S_Conn := ⟨⟨default, default, default, default, default, default⟩⟩
def S_Conn.cells (x : S_Conn) : List AV := [AV.int .i64 x.Id, AV.str x.Origin, AV.int .i64 x.Fetch.Id, AV.str x.Fetch.Origin, AV.str x.Fetch.Bytes, AV.str x.Fetch.Method, AV.bool x.Fetch.Again, AV.int .i64 x.Fetch.Due, AV.bool x.Fetch.Tried, AV.bool x.Reader.Asks, AV.str x.Reader.Method, AV.str x.Reader.Buf, AV.bool x.Reader.In, AV.str x.Reader.Head.Start.Method, AV.str x.Reader.Head.Start.Target, AV.int .i64 x.Reader.Head.Start.Code, AV.str x.Reader.Head.Start.Reason, AV.int .i64 x.Reader.Head.Start.Minor, AV.list 2 (x.Reader.Head.Fields.map S_Field.av), AV.str x.Reader.Head.Body, AV.int .i64 x.Reader.Body.Kind, AV.int .i64 x.Reader.Body.Size, AV.int .i64 x.Reader.Chunk.Stage, AV.str x.Reader.Chunk.Line, AV.int .i64 x.Reader.Chunk.Left, AV.int .i64 x.Reader.Chunk.Size, AV.int .i64 x.Reader.Bad, AV.bool x.Got, AV.int .i64 x.Used]
def S_Conn.av (x : S_Conn) : AV := .agg (S_Conn.cells x)
abbrev S_Conn.z : S_Conn := S_Conn.mk (0 : Int) ([] : List UInt8) S_Fetch.z S_Reader.z false (0 : Int)
abbrev S_Conn.w0 (x : S_Conn) (v : Int) : S_Conn := S_Conn.mk v x.Origin x.Fetch x.Reader x.Got x.Used
abbrev S_Conn.w1 (x : S_Conn) (v : Bytes) : S_Conn := S_Conn.mk x.Id v x.Fetch x.Reader x.Got x.Used
abbrev S_Conn.w2 (x : S_Conn) (v : S_Fetch) : S_Conn := S_Conn.mk x.Id x.Origin v x.Reader x.Got x.Used
abbrev S_Conn.w3 (x : S_Conn) (v : S_Reader) : S_Conn := S_Conn.mk x.Id x.Origin x.Fetch v x.Got x.Used
abbrev S_Conn.w4 (x : S_Conn) (v : Bool) : S_Conn := S_Conn.mk x.Id x.Origin x.Fetch x.Reader v x.Used
abbrev S_Conn.w5 (x : S_Conn) (v : Int) : S_Conn := S_Conn.mk x.Id x.Origin x.Fetch x.Reader x.Got v
structure S_Up where
 Now : Int
 Next : Int
 Conns : (List S_Conn)
 Wait : (List S_Fetch)
instance : Inhabited S_Up := ⟨⟨default, default, default, default⟩⟩
def S_Up.cells (x : S_Up) : List AV := [AV.int .i64 x.Now, AV.int .i64 x.Next, AV.list 29 (x.Conns.map S_Conn.av), AV.list 7 (x.Wait.map S_Fetch.av)]
def S_Up.av (x : S_Up) : AV := .agg (S_Up.cells x)
abbrev S_Up.z : S_Up := S_Up.mk (0 : Int) (0 : Int) ([] : List S_Conn) ([] : List S_Fetch)
abbrev S_Up.w0 (x : S_Up) (v : Int) : S_Up := S_Up.mk v x.Next x.Conns x.Wait
abbrev S_Up.w1 (x : S_Up) (v : Int) : S_Up := S_Up.mk x.Now v x.Conns x.Wait
abbrev S_Up.w2 (x : S_Up) (v : (List S_Conn)) : S_Up := S_Up.mk x.Now x.Next v x.Wait
abbrev S_Up.w3 (x : S_Up) (v : (List S_Fetch)) : S_Up := S_Up.mk x.Now x.Next x.Conns v
structure S_Act where
 Kind : Int
 Conn : Int
 Origin : (List UInt8)
 Bytes : (List UInt8)
 Fetch : Int
 Answer : S_Message
 Bad : Int
instance : Inhabited S_Act := ⟨⟨default, default, default, default, default, default, default⟩⟩
def S_Act.cells (x : S_Act) : List AV := [AV.int .i64 x.Kind, AV.int .i64 x.Conn, AV.str x.Origin, AV.str x.Bytes, AV.int .i64 x.Fetch, AV.str x.Answer.Start.Method, AV.str x.Answer.Start.Target, AV.int .i64 x.Answer.Start.Code, AV.str x.Answer.Start.Reason, AV.int .i64 x.Answer.Start.Minor, AV.list 2 (x.Answer.Fields.map S_Field.av), AV.str x.Answer.Body, AV.int .i64 x.Bad]
def S_Act.av (x : S_Act) : AV := .agg (S_Act.cells x)
abbrev S_Act.z : S_Act := S_Act.mk (0 : Int) (0 : Int) ([] : List UInt8) ([] : List UInt8) (0 : Int) S_Message.z (0 : Int)
abbrev S_Act.w0 (x : S_Act) (v : Int) : S_Act := S_Act.mk v x.Conn x.Origin x.Bytes x.Fetch x.Answer x.Bad
abbrev S_Act.w1 (x : S_Act) (v : Int) : S_Act := S_Act.mk x.Kind v x.Origin x.Bytes x.Fetch x.Answer x.Bad
abbrev S_Act.w2 (x : S_Act) (v : (List UInt8)) : S_Act := S_Act.mk x.Kind x.Conn v x.Bytes x.Fetch x.Answer x.Bad
abbrev S_Act.w3 (x : S_Act) (v : (List UInt8)) : S_Act := S_Act.mk x.Kind x.Conn x.Origin v x.Fetch x.Answer x.Bad
abbrev S_Act.w4 (x : S_Act) (v : Int) : S_Act := S_Act.mk x.Kind x.Conn x.Origin x.Bytes v x.Answer x.Bad
abbrev S_Act.w5 (x : S_Act) (v : S_Message) : S_Act := S_Act.mk x.Kind x.Conn x.Origin x.Bytes x.Fetch v x.Bad
abbrev S_Act.w6 (x : S_Act) (v : Int) : S_Act := S_Act.mk x.Kind x.Conn x.Origin x.Bytes x.Fetch x.Answer v
structure S_upstream_work where
 Up : S_Up
 acts : (List S_Act)
instance : Inhabited S_upstream_work := ⟨⟨default, default⟩⟩
def S_upstream_work.cells (x : S_upstream_work) : List AV := [AV.int .i64 x.Up.Now, AV.int .i64 x.Up.Next, AV.list 29 (x.Up.Conns.map S_Conn.av), AV.list 7 (x.Up.Wait.map S_Fetch.av), AV.list 13 (x.acts.map S_Act.av)]
def S_upstream_work.av (x : S_upstream_work) : AV := .agg (S_upstream_work.cells x)
abbrev S_upstream_work.z : S_upstream_work := S_upstream_work.mk S_Up.z ([] : List S_Act)
abbrev S_upstream_work.w0 (x : S_upstream_work) (v : S_Up) : S_upstream_work := S_upstream_work.mk v x.acts
abbrev S_upstream_work.w1 (x : S_upstream_work) (v : (List S_Act)) : S_upstream_work := S_upstream_work.mk x.Up v
structure S_wire_reading where
 Reader : S_Reader
 out : (List S_Message)
instance : Inhabited S_wire_reading := ⟨⟨default, default⟩⟩
def S_wire_reading.cells (x : S_wire_reading) : List AV := [AV.bool x.Reader.Asks, AV.str x.Reader.Method, AV.str x.Reader.Buf, AV.bool x.Reader.In, AV.str x.Reader.Head.Start.Method, AV.str x.Reader.Head.Start.Target, AV.int .i64 x.Reader.Head.Start.Code, AV.str x.Reader.Head.Start.Reason, AV.int .i64 x.Reader.Head.Start.Minor, AV.list 2 (x.Reader.Head.Fields.map S_Field.av), AV.str x.Reader.Head.Body, AV.int .i64 x.Reader.Body.Kind, AV.int .i64 x.Reader.Body.Size, AV.int .i64 x.Reader.Chunk.Stage, AV.str x.Reader.Chunk.Line, AV.int .i64 x.Reader.Chunk.Left, AV.int .i64 x.Reader.Chunk.Size, AV.int .i64 x.Reader.Bad, AV.list 7 (x.out.map S_Message.av)]
def S_wire_reading.av (x : S_wire_reading) : AV := .agg (S_wire_reading.cells x)
abbrev S_wire_reading.z : S_wire_reading := S_wire_reading.mk S_Reader.z ([] : List S_Message)
abbrev S_wire_reading.w0 (x : S_wire_reading) (v : S_Reader) : S_wire_reading := S_wire_reading.mk v x.out
abbrev S_wire_reading.w1 (x : S_wire_reading) (v : (List S_Message)) : S_wire_reading := S_wire_reading.mk x.Reader v
noncomputable def intarsialaw22_few (a0 : S_Fetch) : Option S_Fetch :=
 (slc a0.Origin 0 (imin (a0.Origin.length : Int) (110 : Int))).bind fun x1 =>
 (slc a0.Bytes 0 (imin (a0.Bytes.length : Int) (400 : Int))).bind fun x2 =>
 (slc a0.Method 0 (imin (a0.Method.length : Int) (20 : Int))).bind fun x3 =>
 some (((a0.w1 x1).w2 x2).w3 x3)
noncomputable def upstream_to (a0 : Bytes) : Option Bytes :=
 some a0
noncomputable def upstream_count_b1 (a0 : (List S_Conn)) (a1i : S_Conn → Option Bool) (x : (Int × Int)) : Option ((Int × Int) ⊕ Int) :=
 match x with
 | (s2, s3) =>
  bif (decide (s3 < (a0.length : Int))) then
   (idx a0 s3).bind fun x4 =>
   (a1i x4).bind fun x5 =>
   bif x5 then
    some (.inl ((IntKind.i64.wrap (s2 + (1 : Int))), (IntKind.i64.wrap (s3 + (1 : Int)))))
   else
    some (.inl (s2, (IntKind.i64.wrap (s3 + (1 : Int)))))
  else
   some (.inr s2)
noncomputable def upstream_count (a0 : (List S_Conn)) (a1i : S_Conn → Option Bool) : Option Int :=
 (loopO (upstream_count_b1 a0 a1i) ((0 : Int), (0 : Int)) : Option Int).bind fun j1 =>
 some j1
noncomputable def upstream_idle (a0 : S_Conn) : Option Bool :=
 some ((a0.Fetch.Id == (0 : Int)) && ((a0.Fetch.Origin == ([] : Bytes)) && ((a0.Fetch.Bytes == ([] : Bytes)) && ((a0.Fetch.Method == ([] : Bytes)) && ((a0.Fetch.Again == false) && ((a0.Fetch.Due == (0 : Int)) && ((a0.Fetch.Tried == false) && true)))))))
noncomputable def upstream_free_1 (a0 : S_Conn) (c0i : S_Conn → Option Bool) : Option Bool :=
 (c0i a0).bind fun x1 =>
 (gcall x1 (upstream_idle a0)).bind fun x2 =>
 some (bif x1 then x2 else false)
noncomputable def upstream_to_1 (a0 : S_Conn) (c0 : Bytes) : Option Bool :=
 some (a0.Origin == c0)
noncomputable def upstream_free (a0 : (List S_Conn)) (a1 : Bytes) : Option (Int × Int) :=
 (upstream_to a1).bind fun x1 =>
 (upstream_count a0 (fun x0 => upstream_free_1 x0 (fun x0 => upstream_to_1 x0 x1))).bind fun x2 =>
 (upstream_count a0 (fun x0 => upstream_to_1 x0 x1)).bind fun x3 =>
 some (x2, x3)
noncomputable def wire_empty (a0 : S_Message) : Option Bool :=
 some (bif (bif ((a0.Start.Method == ([] : Bytes)) && ((a0.Start.Target == ([] : Bytes)) && ((a0.Start.Code == (0 : Int)) && ((a0.Start.Reason == ([] : Bytes)) && ((a0.Start.Minor == (0 : Int)) && true))))) then ((a0.Fields.length : Int) == (0 : Int)) else false) then (a0.Body == ([] : Bytes)) else false)
noncomputable def wire_bare (a0 : S_Reader) : Option Bool :=
 (gcall (bif (a0.Buf == ([] : Bytes)) then (!a0.In) else false) (wire_empty a0.Head)).bind fun x1 =>
 some (bif (bif (bif (bif (a0.Buf == ([] : Bytes)) then (!a0.In) else false) then x1 else false) then ((a0.Body.Kind == (0 : Int)) && ((a0.Body.Size == (0 : Int)) && true)) else false) then ((a0.Chunk.Stage == (0 : Int)) && ((a0.Chunk.Line == ([] : Bytes)) && ((a0.Chunk.Left == (0 : Int)) && ((a0.Chunk.Size == (0 : Int)) && true)))) else false)
noncomputable def wire_Right (a0 : S_Reader) : Option Bool :=
 bif (a0.Bad != (0 : Int)) then
  none
 else
  bif (!a0.In) then
   (wire_bare (S_Reader.mk a0.Asks a0.Method ([] : Bytes) a0.In a0.Head a0.Body a0.Chunk a0.Bad)).bind fun x1 =>
   some (bif x1 then (decide ((a0.Buf.length : Int) ≤ (4000 : Int))) else false)
  else
   none
noncomputable def upstream_fresh (a0 : S_Reader) : Option Bool :=
 (wire_Right a0).bind fun x1 =>
 some (bif (bif (bif x1 then (a0.Buf == ([] : Bytes)) else false) then (!a0.In) else false) then (a0.Bad == (0 : Int)) else false)
noncomputable def upstream_conn (a0 : S_Conn) : Option Bool :=
 bif (bif (bif (bif (decide ((a0.Origin.length : Int) < (1 : Int))) then true else (decide ((a0.Origin.length : Int) > (100 : Int)))) then true else (decide (a0.Used < (0 : Int)))) then true else (decide (a0.Used > (1000000000 : Int)))) then
  some false
 else
  (upstream_idle a0).bind fun x1 =>
  bif x1 then
   (gcall (bif (decide (a0.Used > (0 : Int))) then (!a0.Got) else false) (upstream_fresh a0.Reader)).bind fun x2 =>
   some (bif (bif (bif (bif (decide (a0.Used > (0 : Int))) then (!a0.Got) else false) then x2 else false) then (!a0.Reader.Asks) else false) then (a0.Reader.Method == ([] : Bytes)) else false)
  else
   (gcall (a0.Fetch.Origin == a0.Origin) (wire_Right a0.Reader)).bind fun x3 =>
   some (bif (bif (bif (bif (a0.Fetch.Origin == a0.Origin) then x3 else false) then (!a0.Reader.Asks) else false) then (a0.Reader.Method == a0.Fetch.Method) else false) then (a0.Reader.Bad == (0 : Int)) else false)
noncomputable def upstream_fetches_b1 (a0 : S_Up) (x : ((List S_Fetch) × Int)) : Option (((List S_Fetch) × Int) ⊕ (List S_Fetch)) :=
 match x with
 | (s3, s4) =>
  bif (decide (s4 < (a0.Conns.length : Int))) then
   (idx a0.Conns s4).bind fun x5 =>
   (upstream_idle x5).bind fun x6 =>
   bif (!x6) then
    (app 80 s3 ([x5.Fetch] : List S_Fetch)).bind fun x7 =>
    some (.inl (x7, (IntKind.i64.wrap (s4 + (1 : Int)))))
   else
    some (.inl (s3, (IntKind.i64.wrap (s4 + (1 : Int)))))
  else
   some (.inr s3)
noncomputable def upstream_fetches (a0 : S_Up) : Option (List S_Fetch) :=
 (slices_Clone_Fetch a0.Wait).bind fun x1 =>
 (loopO (upstream_fetches_b1 a0) (x1, (0 : Int)) : Option (List S_Fetch)).bind fun j2 =>
 some j2
noncomputable def upstream_fetch (a0 : S_Fetch) : Option Bool :=
 some (bif (bif (bif (bif (decide (a0.Id ≥ (1 : Int))) then (decide ((a0.Origin.length : Int) ≥ (1 : Int))) else false) then (decide ((a0.Origin.length : Int) ≤ (100 : Int))) else false) then (decide ((a0.Bytes.length : Int) ≥ (1 : Int))) else false) then (decide ((a0.Bytes.length : Int) ≤ (30000 : Int))) else false)
noncomputable def upstream_Right_b3 (a0 : S_Up) (x6 : (List S_Fetch)) (s8 : (List (Int × Bool))) (s11 : Int) : Option (Int ⊕ ((Int × (List (Int × Bool))) ⊕ ((Int × Int) ⊕ Bool))) :=
 bif (decide (s11 < (a0.Wait.length : Int))) then
  (idx a0.Wait s11).bind fun x12 =>
  (upstream_free a0.Conns x12.Origin).bind fun x13 =>
  bif (bif (decide (x13.1 > (0 : Int))) then true else (bif (decide (x13.2 < (4 : Int))) then (decide (a0.Next < (1000000000 : Int))) else false)) then
   some (.inr (.inr (.inr false)))
  else
   some (.inl (IntKind.i64.wrap (s11 + (1 : Int))))
 else
  chk (s8.length ≤ maxLen) <|
  some (.inr (.inr (.inr ((s8.length : Int) == (x6.length : Int)))))
noncomputable def upstream_Right_b2 (a0 : S_Up) (x6 : (List S_Fetch)) (x : (Int × (List (Int × Bool)))) : Option ((Int × (List (Int × Bool))) ⊕ ((Int × Int) ⊕ Bool)) :=
 match x with
 | (s7, s8) =>
  bif (decide (s7 < (x6.length : Int))) then
   (idx x6 s7).bind fun x9 =>
   (upstream_fetch x9).bind fun x10 =>
   bif (bif (bif (!x10) then true else (decide (x9.Due ≤ a0.Now))) then true else (decide ((IntKind.i64.wrap (x9.Due - a0.Now)) > (10 : Int)))) then
    some (.inr (.inr false))
   else
    some (.inl ((IntKind.i64.wrap (s7 + (1 : Int))), (mins s8 x9.Id true)))
  else
   loopO (upstream_Right_b3 a0 x6 s8) (0 : Int)
noncomputable def upstream_Right_b1 (a0 : S_Up) (x : (Int × Int)) : Option ((Int × Int) ⊕ Bool) :=
 match x with
 | (s1, s2) =>
  bif (decide (s2 < (a0.Conns.length : Int))) then
   (idx a0.Conns s2).bind fun x3 =>
   (upstream_free a0.Conns x3.Origin).bind fun x4 =>
   (upstream_conn x3).bind fun x5 =>
   bif (bif (bif (bif (bif (!x5) then true else (decide (x3.Id ≤ s1))) then true else (decide (x3.Id > a0.Next))) then true else (decide (x4.1 > (2 : Int)))) then true else (decide (x4.2 > (4 : Int)))) then
    some (.inr false)
   else
    some (.inl (x3.Id, (IntKind.i64.wrap (s2 + (1 : Int)))))
  else
   (upstream_fetches a0).bind fun x6 =>
   loopO (upstream_Right_b2 a0 x6) ((0 : Int), ([] : List (Int × Bool)))
noncomputable def upstream_Right (a0 : S_Up) : Option Bool :=
 bif (bif (bif (bif (bif (decide (a0.Now < (0 : Int))) then true else (decide (a0.Now > (1000000000 : Int)))) then true else (decide (a0.Next < (0 : Int)))) then true else (decide (a0.Next > (1000000000 : Int)))) then true else (decide ((a0.Wait.length : Int) > (16 : Int)))) then
  some false
 else
  loopO (upstream_Right_b1 a0) ((0 : Int), (0 : Int))
noncomputable def slices_IndexFunc__api_Fetch_api_Fetch_b1 (a0 : (List S_Fetch)) (a1i : S_Fetch → Option Bool) (s1 : Int) : Option (Int ⊕ Int) :=
 bif (decide (s1 < (a0.length : Int))) then
  (idx a0 s1).bind fun x2 =>
  (a1i x2).bind fun x3 =>
  bif x3 then
   some (.inr s1)
  else
   some (.inl (IntKind.i64.wrap (s1 + (1 : Int))))
 else
  some (.inr (-1 : Int))
noncomputable def slices_IndexFunc__api_Fetch_api_Fetch (a0 : (List S_Fetch)) (a1i : S_Fetch → Option Bool) : Option Int :=
 loopO (slices_IndexFunc__api_Fetch_api_Fetch_b1 a0 a1i) (0 : Int)
noncomputable def slices_ContainsFunc__api_Fetch_api_Fetch (a0 : (List S_Fetch)) (a1i : S_Fetch → Option Bool) : Option Bool :=
 (slices_IndexFunc__api_Fetch_api_Fetch a0 a1i).bind fun x1 =>
 some (decide (x1 ≥ (0 : Int)))
noncomputable def upstream_Ask_1 (a0 : S_Fetch) (c0 : S_Fetch) : Option Bool :=
 some (a0.Id == c0.Id)
noncomputable def slices_IndexFunc__api_Conn_api_Conn_b1 (a0 : (List S_Conn)) (a1i : S_Conn → Option Bool) (s1 : Int) : Option (Int ⊕ Int) :=
 bif (decide (s1 < (a0.length : Int))) then
  (idx a0 s1).bind fun x2 =>
  (a1i x2).bind fun x3 =>
  bif x3 then
   some (.inr s1)
  else
   some (.inl (IntKind.i64.wrap (s1 + (1 : Int))))
 else
  some (.inr (-1 : Int))
noncomputable def slices_IndexFunc__api_Conn_api_Conn (a0 : (List S_Conn)) (a1i : S_Conn → Option Bool) : Option Int :=
 loopO (slices_IndexFunc__api_Conn_api_Conn_b1 a0 a1i) (0 : Int)
noncomputable def upstream_work_place_1 (a0 : S_Conn) (c0i : S_Conn → Option Bool) : Option Bool :=
 (c0i a0).bind fun x1 =>
 (gcall x1 (upstream_idle a0)).bind fun x2 =>
 some (bif x1 then x2 else false)
noncomputable def wire_New (a0 : Bool) (a1 : Bytes) : Option S_Reader :=
 some ((S_Reader.z.w0 a0).w1 a1)
noncomputable def upstream_Ask (a0 : S_Up) (a1 : S_Fetch) : Option (S_Up × (List S_Act) × Int) :=
 (upstream_Right a0).bind fun x1 =>
 (gcall (!(!x1)) (upstream_fetch a1)).bind fun x2 =>
 (gcall (!(bif (bif (!x1) then true else (!x2)) then true else (decide (a0.Next ≥ (1000000000 : Int))))) (upstream_fetches a0)).bind fun x3 =>
 bif (!(bif (bif (!x1) then true else (!x2)) then true else (decide (a0.Next ≥ (1000000000 : Int))))) then
  (slices_ContainsFunc__api_Fetch_api_Fetch x3 (fun x0 => upstream_Ask_1 x0 a1)).bind fun x4 =>
  bif (bif (bif (bif (!x1) then true else (!x2)) then true else (decide (a0.Next ≥ (1000000000 : Int)))) then true else x4) then
   some (S_Up.z, ([] : List S_Act), (1 : Int))
  else
   (chk2 (a0.Conns.length ≤ maxLen ∧ a0.Conns.length * 336 ≤ 140737488355328)).bind fun x5 =>
   (chk2 (a0.Wait.length ≤ maxLen ∧ a0.Wait.length * 80 ≤ 140737488355328)).bind fun x6 =>
   (upstream_to a1.Origin).bind fun x7 =>
   (slices_IndexFunc__api_Conn_api_Conn a0.Conns (fun x0 => upstream_work_place_1 x0 (fun x0 => upstream_to_1 x0 x7))).bind fun x8 =>
   bif (decide (x8 ≥ (0 : Int))) then
    chk (0 ≤ x8 ∧ x8 < (a0.Conns.length : Int)) <|
    (wire_New false a1.Method).bind fun x10 =>
    (idx a0.Conns x8).bind fun x11 =>
    (idx (a0.Conns.set x8.toNat (x11.w2 ((a1.w5 (IntKind.i64.wrap (a0.Now + (10 : Int)))).w6 false))) x8).bind fun x12 =>
    (idx ((a0.Conns.set x8.toNat (x11.w2 ((a1.w5 (IntKind.i64.wrap (a0.Now + (10 : Int)))).w6 false))).set x8.toNat (x12.w3 x10)) x8).bind fun x13 =>
    (idx (((a0.Conns.set x8.toNat (x11.w2 ((a1.w5 (IntKind.i64.wrap (a0.Now + (10 : Int)))).w6 false))).set x8.toNat (x12.w3 x10)).set x8.toNat (x13.w4 false)) x8).bind fun x14 =>
    (app 168 ([] : List S_Act) ([(((S_Act.z.w0 (2 : Int)).w1 x14.Id).w3 a1.Bytes)] : List S_Act)).bind fun x15 =>
    some ((S_Up.mk a0.Now a0.Next (((a0.Conns.set x8.toNat (x11.w2 ((a1.w5 (IntKind.i64.wrap (a0.Now + (10 : Int)))).w6 false))).set x8.toNat (x12.w3 x10)).set x8.toNat (x13.w4 false)) a0.Wait), x15, (0 : Int))
   else
    (upstream_count a0.Conns (fun x0 => upstream_to_1 x0 x7)).bind fun x16 =>
    bif (bif (decide (x16 < (4 : Int))) then (decide (a0.Next < (1000000000 : Int))) else false) then
     (app 336 a0.Conns ([((S_Conn.z.w0 (IntKind.i64.wrap (a0.Next + (1 : Int)))).w1 a1.Origin)] : List S_Conn)).bind fun x17 =>
     (app 168 ([] : List S_Act) ([(((S_Act.z.w0 (1 : Int)).w1 (IntKind.i64.wrap (a0.Next + (1 : Int)))).w2 a1.Origin)] : List S_Act)).bind fun x18 =>
     chk (0 ≤ (IntKind.i64.wrap ((x17.length : Int) - (1 : Int))) ∧ (IntKind.i64.wrap ((x17.length : Int) - (1 : Int))) < (x17.length : Int)) <|
     (wire_New false a1.Method).bind fun x20 =>
     (idx x17 (IntKind.i64.wrap ((x17.length : Int) - (1 : Int)))).bind fun x21 =>
     (idx (x17.set (IntKind.i64.wrap ((x17.length : Int) - (1 : Int))).toNat (x21.w2 ((a1.w5 (IntKind.i64.wrap (a0.Now + (10 : Int)))).w6 false))) (IntKind.i64.wrap ((x17.length : Int) - (1 : Int)))).bind fun x22 =>
     (idx ((x17.set (IntKind.i64.wrap ((x17.length : Int) - (1 : Int))).toNat (x21.w2 ((a1.w5 (IntKind.i64.wrap (a0.Now + (10 : Int)))).w6 false))).set (IntKind.i64.wrap ((x17.length : Int) - (1 : Int))).toNat (x22.w3 x20)) (IntKind.i64.wrap ((x17.length : Int) - (1 : Int)))).bind fun x23 =>
     (idx (((x17.set (IntKind.i64.wrap ((x17.length : Int) - (1 : Int))).toNat (x21.w2 ((a1.w5 (IntKind.i64.wrap (a0.Now + (10 : Int)))).w6 false))).set (IntKind.i64.wrap ((x17.length : Int) - (1 : Int))).toNat (x22.w3 x20)).set (IntKind.i64.wrap ((x17.length : Int) - (1 : Int))).toNat (x23.w4 false)) (IntKind.i64.wrap ((x17.length : Int) - (1 : Int)))).bind fun x24 =>
     (app 168 x18 ([(((S_Act.z.w0 (2 : Int)).w1 x24.Id).w3 a1.Bytes)] : List S_Act)).bind fun x25 =>
     some ((S_Up.mk a0.Now (IntKind.i64.wrap (a0.Next + (1 : Int))) (((x17.set (IntKind.i64.wrap ((x17.length : Int) - (1 : Int))).toNat (x21.w2 ((a1.w5 (IntKind.i64.wrap (a0.Now + (10 : Int)))).w6 false))).set (IntKind.i64.wrap ((x17.length : Int) - (1 : Int))).toNat (x22.w3 x20)).set (IntKind.i64.wrap ((x17.length : Int) - (1 : Int))).toNat (x23.w4 false)) a0.Wait), x25, (0 : Int))
    else
     bif (decide ((a0.Wait.length : Int) ≥ (16 : Int))) then
      (app 168 ([] : List S_Act) ([(((S_Act.z.w0 (4 : Int)).w4 a1.Id).w6 (4 : Int))] : List S_Act)).bind fun x26 =>
      some ((S_Up.mk a0.Now a0.Next a0.Conns a0.Wait), x26, (0 : Int))
     else
      (app 80 a0.Wait ([((a1.w5 (IntKind.i64.wrap (a0.Now + (10 : Int)))).w6 false)] : List S_Fetch)).bind fun x27 =>
      some ((S_Up.mk a0.Now a0.Next a0.Conns x27), ([] : List S_Act), (0 : Int))
 else
  bif (bif (bif (bif (!x1) then true else (!x2)) then true else (decide (a0.Next ≥ (1000000000 : Int)))) then true else false) then
   some (S_Up.z, ([] : List S_Act), (1 : Int))
  else
   none
noncomputable def intarsialaw22_alive : Option Bool :=
 (upstream_Ask S_Up.z ((((S_Fetch.z.w0 (1 : Int)).w1 ([111] : Bytes)).w2 ([98] : Bytes)).w3 ([71, 69, 84] : Bytes))).bind fun x1 =>
 (gidx (bif (x1.2.2 == (0 : Int)) then ((x1.2.1.length : Int) == (2 : Int)) else false) x1.2.1 (0 : Int)).bind fun x2 =>
 (gidx (bif (bif (x1.2.2 == (0 : Int)) then ((x1.2.1.length : Int) == (2 : Int)) else false) then (x2.Kind == (1 : Int)) else false) x1.2.1 (1 : Int)).bind fun x3 =>
 (gidx (bif (bif (bif (x1.2.2 == (0 : Int)) then ((x1.2.1.length : Int) == (2 : Int)) else false) then (x2.Kind == (1 : Int)) else false) then (x3.Kind == (2 : Int)) else false) x1.2.1 (1 : Int)).bind fun x4 =>
 some (bif (bif (bif (bif (x1.2.2 == (0 : Int)) then ((x1.2.1.length : Int) == (2 : Int)) else false) then (x2.Kind == (1 : Int)) else false) then (x3.Kind == (2 : Int)) else false) then (x4.Bytes == ([98] : Bytes)) else false)
noncomputable def upstream_Tick_1 (a0 : S_Conn) (c0 : S_Fetch) : Option Bool :=
 some (a0.Fetch.Id == c0.Id)
noncomputable def upstream_Tick_2 (a0 : S_Fetch) (c0 : S_Fetch) : Option Bool :=
 some (a0.Id == c0.Id)
noncomputable def upstream_work_goes_b1 (a0 : S_upstream_work) (s1 : Int) : Option (Int ⊕ ((Int × Int × (List S_Act) × Int) × S_upstream_work)) :=
 bif (decide (s1 < (a0.Up.Wait.length : Int))) then
  none
 else
  some (.inr ((a0.Up.Now, a0.Up.Next, a0.acts, (0 : Int)), a0))
noncomputable def upstream_work_goes (a0 : S_upstream_work) : Option ((Int × Int × (List S_Act) × Int) × S_upstream_work) :=
 loopO (upstream_work_goes_b1 a0) (0 : Int)
noncomputable def upstream_Tick_b1 (a0 : S_Up) (x : (Int × (List S_Fetch))) : Option ((Int × (List S_Fetch)) ⊕ (List S_Fetch)) :=
 match x with
 | (s6, s7) =>
  bif (decide (s6 < (a0.Conns.length : Int))) then
   (idx a0.Conns s6).bind fun x8 =>
   (upstream_idle x8).bind fun x9 =>
   bif (!x9) then
    (app 80 s7 ([x8.Fetch] : List S_Fetch)).bind fun x10 =>
    some (.inl ((IntKind.i64.wrap (s6 + (1 : Int))), x10))
   else
    some (.inl ((IntKind.i64.wrap (s6 + (1 : Int))), s7))
  else
   some (.inr s7)
noncomputable def upstream_Tick_b4 (s16 : (List S_Fetch)) (s26 : Int) : Option (Int ⊕ Int) :=
 bif (bif (decide ((IntKind.i64.wrap ((IntKind.i64.wrap ((2 : Int) * s26)) + (1 : Int))) ≥ (IntKind.i64.wrap ((s16.length : Int) - (1 : Int))))) then true else (decide ((IntKind.i64.wrap ((IntKind.i64.wrap ((2 : Int) * s26)) + (1 : Int))) < (0 : Int)))) then
  some (.inr s26)
 else
  none
noncomputable def upstream_Tick_b3 (a0 : S_Up) (x : ((List S_Conn) × (List S_Act) × (List S_Fetch))) : Option (((List S_Conn) × (List S_Act) × (List S_Fetch)) ⊕ (Int ⊕ ((List S_Conn) × Int × Int × (List S_Act)))) :=
 match x with
 | (s14, s15, s16) =>
  bif (decide ((s16.length : Int) > (0 : Int))) then
   chk (0 ≤ (IntKind.i64.wrap ((s16.length : Int) - (1 : Int))) ∧ (IntKind.i64.wrap ((s16.length : Int) - (1 : Int))) < (s16.length : Int)) <|
   (idx s16 (IntKind.i64.wrap ((s16.length : Int) - (1 : Int)))).bind fun x18 =>
   chk (0 ≤ (0 : Int) ∧ (0 : Int) < (s16.length : Int)) <|
   (idx s16 (0 : Int)).bind fun x20 =>
   chk (0 ≤ (0 : Int) ∧ (0 : Int) < (s16.length : Int)) <|
   chk (0 ≤ (0 : Int) ∧ (0 : Int) < (s16.length : Int)) <|
   chk (0 ≤ (IntKind.i64.wrap ((s16.length : Int) - (1 : Int))) ∧ (IntKind.i64.wrap ((s16.length : Int) - (1 : Int))) < (s16.length : Int)) <|
   chk (0 ≤ (IntKind.i64.wrap ((s16.length : Int) - (1 : Int))) ∧ (IntKind.i64.wrap ((s16.length : Int) - (1 : Int))) < ((s16.set (0 : Int).toNat x18).length : Int)) <|
   (loopO (upstream_Tick_b4 s16) (0 : Int) : Option Int).bind fun j25 =>
   chk (0 ≤ (IntKind.i64.wrap ((s16.length : Int) - (1 : Int))) ∧ (IntKind.i64.wrap ((s16.length : Int) - (1 : Int))) < (s16.length : Int)) <|
   (idx ((s16.set (0 : Int).toNat x18).set (IntKind.i64.wrap ((s16.length : Int) - (1 : Int))).toNat x20) (IntKind.i64.wrap ((s16.length : Int) - (1 : Int)))).bind fun x28 =>
   (slc ((s16.set (0 : Int).toNat x18).set (IntKind.i64.wrap ((s16.length : Int) - (1 : Int))).toNat x20) 0 (IntKind.i64.wrap ((s16.length : Int) - (1 : Int)))).bind fun x29 =>
   bif (decide (x28.Due > (IntKind.i64.wrap (a0.Now + (1 : Int))))) then
    some (.inr (.inr (s14, (IntKind.i64.wrap (a0.Now + (1 : Int))), a0.Next, s15)))
   else
    (app 168 s15 ([(((S_Act.z.w0 (4 : Int)).w4 x28.Id).w6 (62 : Int))] : List S_Act)).bind fun x30 =>
    (slices_IndexFunc__api_Conn_api_Conn s14 (fun x0 => upstream_Tick_1 x0 x28)).bind fun x31 =>
    bif (decide (x31 ≥ (0 : Int))) then
     chk (0 ≤ x31 ∧ x31 < (s14.length : Int)) <|
     (idx s14 x31).bind fun x33 =>
     (app 168 x30 ([((S_Act.z.w0 (3 : Int)).w1 x33.Id)] : List S_Act)).bind fun x34 =>
     (del s14 x31 (IntKind.i64.wrap (x31 + (1 : Int)))).bind fun x35 =>
     (slices_IndexFunc__api_Fetch_api_Fetch a0.Wait (fun x0 => upstream_Tick_2 x0 x28)).bind fun x36 =>
     bif (x36 == (-1 : Int)) then
      some (.inl (x35, x34, x29))
     else
      none
    else
     (slices_IndexFunc__api_Fetch_api_Fetch a0.Wait (fun x0 => upstream_Tick_2 x0 x28)).bind fun x37 =>
     bif (x37 == (-1 : Int)) then
      some (.inl (s14, x30, x29))
     else
      none
  else
   some (.inr (.inr (s14, (IntKind.i64.wrap (a0.Now + (1 : Int))), a0.Next, s15)))
noncomputable def upstream_Tick_b2 (a0 : S_Up) (j5 : (List S_Fetch)) (s13 : Int) : Option (Int ⊕ ((List S_Conn) × Int × Int × (List S_Act))) :=
 bif (decide (s13 ≥ (0 : Int))) then
  none
 else
  loopO (upstream_Tick_b3 a0) (a0.Conns, ([] : List S_Act), j5)
noncomputable def upstream_Tick (a0 : S_Up) : Option (S_Up × (List S_Act) × Int) :=
 (upstream_Right a0).bind fun x1 =>
 bif (bif (!x1) then true else (decide (a0.Now ≥ (1000000000 : Int)))) then
  some (S_Up.z, ([] : List S_Act), (1 : Int))
 else
  (chk2 (a0.Conns.length ≤ maxLen ∧ a0.Conns.length * 336 ≤ 140737488355328)).bind fun x2 =>
  (chk2 (a0.Wait.length ≤ maxLen ∧ a0.Wait.length * 80 ≤ 140737488355328)).bind fun x3 =>
  (chk2 (a0.Wait.length ≤ maxLen ∧ a0.Wait.length * 80 ≤ 140737488355328)).bind fun x4 =>
  (loopO (upstream_Tick_b1 a0) ((0 : Int), a0.Wait) : Option (List S_Fetch)).bind fun j5 =>
  (chk (((2 : Int) == 0) = false) <|
  loopO (upstream_Tick_b2 a0 j5) (IntKind.i64.wrap ((IntKind.i64.wrap ((j5.length : Int).tdiv (2 : Int))) - (1 : Int))) : Option ((List S_Conn) × Int × Int × (List S_Act))).bind fun j11 =>
  (upstream_work_goes (S_upstream_work.mk (S_Up.mk j11.2.1 j11.2.2.1 j11.1 a0.Wait) j11.2.2.2)).bind fun x38 =>
  some (((x38.2.Up.w0 x38.1.1).w1 x38.1.2.1), x38.1.2.2.1, x38.1.2.2.2)
noncomputable def start_Right_1 (a0 : Int) : Option Bool :=
 some (bif (bif (decide (a0 < (32 : Int))) then (a0 != (9 : Int)) else false) then true else (a0 == (127 : Int)))
noncomputable def start_Right (a0 : S_Start) : Option Bool :=
 bif (bif (a0.Minor != (0 : Int)) then (a0.Minor != (1 : Int)) else false) then
  some false
 else
  bif (a0.Code == (0 : Int)) then
   none
  else
   (gcall (bif (bif (bif (bif (decide (a0.Code ≥ (100 : Int))) then (decide (a0.Code ≤ (599 : Int))) else false) then (a0.Method == ([] : Bytes)) else false) then (a0.Target == ([] : Bytes)) else false) then (decide ((a0.Reason.length : Int) ≤ (100 : Int))) else false) (text_Trim a0.Reason)).bind fun x1 =>
   (gcall (bif (bif (bif (bif (bif (decide (a0.Code ≥ (100 : Int))) then (decide (a0.Code ≤ (599 : Int))) else false) then (a0.Method == ([] : Bytes)) else false) then (a0.Target == ([] : Bytes)) else false) then (decide ((a0.Reason.length : Int) ≤ (100 : Int))) else false) then (x1 == a0.Reason) else false) (slices_ContainsFunc__byte_byte a0.Reason (fun x0 => start_Right_1 x0))).bind fun x2 =>
   some (bif (bif (bif (bif (bif (bif (decide (a0.Code ≥ (100 : Int))) then (decide (a0.Code ≤ (599 : Int))) else false) then (a0.Method == ([] : Bytes)) else false) then (a0.Target == ([] : Bytes)) else false) then (decide ((a0.Reason.length : Int) ≤ (100 : Int))) else false) then (x1 == a0.Reason) else false) then (!x2) else false)
noncomputable def number_Dec (a0 : Int) : Option Bytes :=
 (strconv_FormatUint a0 (10 : Int)).bind fun x1 =>
 some x1
noncomputable def start_Print (a0 : S_Start) : Option (Bytes × Int) :=
 (start_Right a0).bind fun x1 =>
 bif (!x1) then
  some (([] : Bytes), (1 : Int))
 else
  (number_Dec (IntKind.u64.wrap a0.Minor)).bind fun x2 =>
  (cat ([72, 84, 84, 80, 47, 49, 46] : Bytes) x2).bind fun x3 =>
  bif (a0.Code == (0 : Int)) then
   none
  else
   (number_Dec (IntKind.u64.wrap a0.Code)).bind fun x4 =>
   (strings_Join ([x3, x4, a0.Reason] : List Bytes) ([32] : Bytes)).bind fun x5 =>
   some (x5, (0 : Int))
noncomputable def table_named (a0 : Bytes) : Option Bytes :=
 some a0
noncomputable def table_keep_api_Field_b1 (a0 : (List S_Field)) (a1i : S_Field → Option Bool) (x : ((List S_Field) × Int)) : Option (((List S_Field) × Int) ⊕ (List S_Field)) :=
 match x with
 | (s2, s3) =>
  bif (decide (s3 < (a0.length : Int))) then
   (idx a0 s3).bind fun x4 =>
   (a1i x4).bind fun x5 =>
   bif x5 then
    (app 32 s2 ([x4] : List S_Field)).bind fun x6 =>
    some (.inl (x6, (IntKind.i64.wrap (s3 + (1 : Int)))))
   else
    some (.inl (s2, (IntKind.i64.wrap (s3 + (1 : Int)))))
  else
   some (.inr s2)
noncomputable def table_keep_api_Field (a0 : (List S_Field)) (a1i : S_Field → Option Bool) : Option (List S_Field) :=
 (loopO (table_keep_api_Field_b1 a0 a1i) (([] : List S_Field), (0 : Int)) : Option (List S_Field)).bind fun j1 =>
 some j1
noncomputable def table_Remove_1 (a0 : S_Field) (c0i : S_Field → Option Bool) : Option Bool :=
 (c0i a0).bind fun x1 =>
 some (!x1)
noncomputable def text_Lower_b1 (a0 : Bytes) (x : (Int × (List UInt8))) : Option ((Int × (List UInt8)) ⊕ (List UInt8)) :=
 match x with
 | (s2, s3) =>
  bif (decide (s2 < (a0.length : Int))) then
   chk (0 ≤ s2 ∧ s2 < (a0.length : Int)) <|
   (idx s3 s2).bind fun x5 =>
   bif (bif (decide ((x5.toNat : Int) ≥ (65 : Int))) then (decide ((x5.toNat : Int) ≤ (90 : Int))) else false) then
    chk (0 ≤ s2 ∧ s2 < (a0.length : Int)) <|
    (seti s3 s2 (u8 (IntKind.u8.wrap ((IntKind.u8.wrap ((x5.toNat : Int) + (97 : Int))) - (65 : Int))))).bind fun x7 =>
    some (.inl ((IntKind.i64.wrap (s2 + (1 : Int))), x7))
   else
    some (.inl ((IntKind.i64.wrap (s2 + (1 : Int))), s3))
  else
   some (.inr s3)
noncomputable def text_Lower (a0 : Bytes) : Option Bytes :=
 (loopO (text_Lower_b1 a0) ((0 : Int), a0) : Option (List UInt8)).bind fun j1 =>
 chk (a0.length ≤ j1.length) <|
 some (j1.take a0.length)
noncomputable def text_Same (a0 : Bytes) (a1 : Bytes) : Option Bool :=
 (text_Lower a0).bind fun x1 =>
 (text_Lower a1).bind fun x2 =>
 some (x1 == x2)
noncomputable def table_named_1 (a0 : S_Field) (c0 : Bytes) : Option Bool :=
 (text_Same a0.Name c0).bind fun x1 =>
 some x1
noncomputable def table_Remove (a0 : (List S_Field)) (a1 : Bytes) : Option (List S_Field) :=
 (table_named a1).bind fun x1 =>
 (table_keep_api_Field a0 (fun x0 => table_Remove_1 x0 (fun x0 => table_named_1 x0 x1))).bind fun x2 =>
 some x2
noncomputable def frame_With (a0 : (List S_Field)) (a1 : S_Body) : Option ((List S_Field) × Int) :=
 (table_Right a0).bind fun x1 =>
 bif (bif (bif (bif (bif (!x1) then true else (decide (a1.Size < (0 : Int)))) then true else (decide (a1.Size > (20000 : Int)))) then true else (decide (a1.Kind < (0 : Int)))) then true else (decide (a1.Kind > (3 : Int)))) then
  none
 else
  (table_Remove a0 ([67, 111, 110, 116, 101, 110, 116, 45, 76, 101, 110, 103, 116, 104] : Bytes)).bind fun x2 =>
  (table_Remove x2 ([84, 114, 97, 110, 115, 102, 101, 114, 45, 69, 110, 99, 111, 100, 105, 110, 103] : Bytes)).bind fun x3 =>
  bif (a1.Kind == (1 : Int)) then
   (number_Dec (IntKind.u64.wrap a1.Size)).bind fun x4 =>
   (table_Add x3 ([67, 111, 110, 116, 101, 110, 116, 45, 76, 101, 110, 103, 116, 104] : Bytes) x4).bind fun x5 =>
   some (x5.1, x5.2)
  else
   bif (a1.Kind == (2 : Int)) then
    none
   else
    some (x3, (0 : Int))
noncomputable def head_Print_b1 (a0 : (List S_Field)) (x : (Int × Bytes)) : Option ((Int × Bytes) ⊕ Bytes) :=
 match x with
 | (s3, s4) =>
  bif (decide (s3 < (a0.length : Int))) then
   (idx a0 s3).bind fun x5 =>
   (cat x5.Name ([58, 32] : Bytes)).bind fun x6 =>
   (cat x6 x5.Value).bind fun x7 =>
   (cat x7 ([13, 10] : Bytes)).bind fun x8 =>
   (bcat s4 x8).bind fun x9 =>
   some (.inl ((IntKind.i64.wrap (s3 + (1 : Int))), (s4 ++ x8)))
  else
   some (.inr s4)
noncomputable def head_Print (a0 : (List S_Field)) : Option (Bytes × Int) :=
 (table_Right a0).bind fun x1 =>
 bif (!x1) then
  some (([] : Bytes), (1 : Int))
 else
  (loopO (head_Print_b1 a0) ((0 : Int), ([] : Bytes)) : Option Bytes).bind fun j2 =>
  (bcat j2 []).bind fun x10 =>
  bif (decide ((j2.length : Int) > (4000 : Int))) then
   some (([] : Bytes), (2 : Int))
  else
   (bcat j2 []).bind fun x11 =>
   some (j2, (0 : Int))
noncomputable def wire_Write (a0 : S_Message) (a1 : Bool) : Option (Bytes × Int) :=
 (start_Print a0.Start).bind fun x1 =>
 (gcall (!(x1.2 != (0 : Int))) (table_Right a0.Fields)).bind fun x2 =>
 bif (bif (bif (x1.2 != (0 : Int)) then true else (!x2)) then true else (decide ((a0.Body.length : Int) > (20000 : Int)))) then
  none
 else
  bif a1 then
   none
  else
   (frame_With a0.Fields (S_Body.mk (1 : Int) (a0.Body.length : Int))).bind fun x3 =>
   bif (x3.2 != (0 : Int)) then
    none
   else
    (head_Print x3.1).bind fun x4 =>
    bif (x4.2 != (0 : Int)) then
     none
    else
     (cat x1.1 ([13, 10] : Bytes)).bind fun x5 =>
     (cat x5 x4.1).bind fun x6 =>
     (cat x6 ([13, 10] : Bytes)).bind fun x7 =>
     (cat x7 a0.Body).bind fun x8 =>
     some (x8, (0 : Int))
noncomputable def slices_BinarySearchFunc__api_Conn_api_Conn_int_b1 (a0 : (List S_Conn)) (a1 : Int) (a2i : S_Conn → Int → Option Int) (x : (Int × Int)) : Option ((Int × Int) ⊕ Int) :=
 match x with
 | (s2, s3) =>
  bif (decide (s2 < s3)) then
   chk ((0 ≤ (1 : Int) ∧ (1 : Int) ≤ (IntKind.u64.bits : Int)) ∧ IntKind.u64.wrap ((IntKind.u64.wrap (IntKind.i64.wrap (s2 + s3))) / 2 ^ (1 : Int).toNat) = (IntKind.u64.wrap (IntKind.i64.wrap (s2 + s3))) / 2 ^ (1 : Int).toNat) <|
   (idx a0 (IntKind.i64.wrap ((IntKind.u64.wrap (IntKind.i64.wrap (s2 + s3))) / 2 ^ (1 : Int).toNat))).bind fun x5 =>
   (a2i x5 a1).bind fun x6 =>
   bif (decide (x6 < (0 : Int))) then
    some (.inl ((IntKind.i64.wrap ((IntKind.i64.wrap ((IntKind.u64.wrap (IntKind.i64.wrap (s2 + s3))) / 2 ^ (1 : Int).toNat)) + (1 : Int))), s3))
   else
    some (.inl (s2, (IntKind.i64.wrap ((IntKind.u64.wrap (IntKind.i64.wrap (s2 + s3))) / 2 ^ (1 : Int).toNat))))
  else
   some (.inr s2)
noncomputable def slices_BinarySearchFunc__api_Conn_api_Conn_int (a0 : (List S_Conn)) (a1 : Int) (a2i : S_Conn → Int → Option Int) : Option (Int × Bool) :=
 (loopO (slices_BinarySearchFunc__api_Conn_api_Conn_int_b1 a0 a1 a2i) ((0 : Int), (a0.length : Int)) : Option Int).bind fun j1 =>
 (gidx (decide (j1 < (a0.length : Int))) a0 j1).bind fun x7 =>
 (gcall (decide (j1 < (a0.length : Int))) (a2i x7 a1)).bind fun x8 =>
 some (j1, (bif (decide (j1 < (a0.length : Int))) then (x8 == (0 : Int)) else false))
noncomputable def upstream_find_1 (a0 : S_Conn) (a1 : Int) : Option Int :=
 some (IntKind.i64.wrap (a0.Id - a1))
noncomputable def upstream_find (a0 : S_Up) (a1 : Int) : Option (Int × Bool) :=
 (slices_BinarySearchFunc__api_Conn_api_Conn_int a0.Conns a1 (fun x0 x1 => upstream_find_1 x0 x1)).bind fun x1 =>
 some (x1.1, x1.2)
noncomputable def wire_reading_whole (o0 : S_wire_reading) : Option (Bool × S_wire_reading) :=
 (app 104 o0.out ([o0.Reader.Head] : List S_Message)).bind fun x1 =>
 some (true, (S_wire_reading.mk ((((o0.Reader.w3 false).w4 S_Message.z).w5 S_Body.z).w6 S_Chunked.z) x1))
noncomputable def wire_reading_more (o0 : S_wire_reading) : Option (Bool × S_wire_reading) :=
 bif (o0.Reader.Body.Kind == (0 : Int)) then
  none
 else
  bif (o0.Reader.Body.Kind == (1 : Int)) then
   (slc o0.Reader.Buf 0 (imin (o0.Reader.Buf.length : Int) (IntKind.i64.wrap (o0.Reader.Body.Size - (o0.Reader.Head.Body.length : Int))))).bind fun x1 =>
   (cat o0.Reader.Head.Body x1).bind fun x2 =>
   (slc o0.Reader.Buf (imin (o0.Reader.Buf.length : Int) (IntKind.i64.wrap (o0.Reader.Body.Size - (o0.Reader.Head.Body.length : Int)))) (o0.Reader.Buf.length : Int)).bind fun x3 =>
   bif ((x2.length : Int) == o0.Reader.Body.Size) then
    (wire_reading_whole (o0.w0 ((o0.Reader.w2 x3).w4 (o0.Reader.Head.w2 x2)))).bind fun x4 =>
    some ((bif ((x2.length : Int) == o0.Reader.Body.Size) then x4.1 else false), x4.2)
   else
    some ((bif ((x2.length : Int) == o0.Reader.Body.Size) then false else false), (o0.w0 ((o0.Reader.w2 x3).w4 (o0.Reader.Head.w2 x2))))
  else
   bif (o0.Reader.Body.Kind == (2 : Int)) then
    none
   else
    none
noncomputable def stringslite_HasPrefix (a0 : Bytes) (a1 : Bytes) : Option Bool :=
 (gslc (decide ((a0.length : Int) ≥ (a1.length : Int))) a0 0 (a1.length : Int)).bind fun x1 =>
 some (bif (decide ((a0.length : Int) ≥ (a1.length : Int))) then (x1 == a1) else false)
noncomputable def strings_HasPrefix (a0 : Bytes) (a1 : Bytes) : Option Bool :=
 (stringslite_HasPrefix a0 a1).bind fun x1 =>
 some x1
noncomputable def number_read_uint64_b1 (a0 : Bytes) (a1 : Int) (a2i : Int → Option Int) (x : (Int × Bool × Int)) : Option ((Int × Bool × Int) ⊕ (Int × Int)) :=
 match x with
 | (s1, s2, s3) =>
  bif (decide (s3 < (a0.length : Int))) then
   (idx a0 s3).bind fun x4 =>
   (a2i (x4.toNat : Int)).bind fun x5 =>
   bif (decide (x5 ≥ a1)) then
    some (.inr ((0 : Int), (10 : Int)))
   else
    bif (decide ((IntKind.u64.wrap ((IntKind.u64.wrap (s1 * a1)) + x5)) > (1099511627776 : Int))) then
     some (.inl ((0 : Int), true, (IntKind.i64.wrap (s3 + (1 : Int)))))
    else
     some (.inl ((IntKind.u64.wrap ((IntKind.u64.wrap (s1 * a1)) + x5)), s2, (IntKind.i64.wrap (s3 + (1 : Int)))))
  else
   bif s2 then
    some (.inr ((0 : Int), (2 : Int)))
   else
    some (.inr (s1, (0 : Int)))
noncomputable def number_read_uint64 (a0 : Bytes) (a1 : Int) (a2i : Int → Option Int) : Option (Int × Int) :=
 bif (a0 == ([] : Bytes)) then
  some ((0 : Int), (10 : Int))
 else
  loopO (number_read_uint64_b1 a0 a1 a2i) ((IntKind.u64.wrap (0 : Int)), false, (0 : Int))
noncomputable def number_ReadDec_1 (a0 : Int) : Option Int :=
 some (IntKind.u64.wrap (IntKind.u8.wrap (a0 - (48 : Int))))
noncomputable def number_ReadDec (a0 : Bytes) : Option (Int × Int) :=
 (number_read_uint64 a0 (10 : Int) (fun x0 => number_ReadDec_1 x0)).bind fun x1 =>
 some (x1.1, x1.2)
noncomputable def start_minor (a0 : Bytes) : Option Int :=
 bif (a0 == ([72, 84, 84, 80, 47, 49, 46, 48] : Bytes)) then
  some (0 : Int)
 else
  bif (a0 == ([72, 84, 84, 80, 47, 49, 46, 49] : Bytes)) then
   some (1 : Int)
  else
   some (2 : Int)
noncomputable def start_Status (a0 : Bytes) : Option (S_Start × Int) :=
 (strings_SplitN a0 ([32] : Bytes) (3 : Int)).bind fun x1 =>
 (gidx (!(decide ((x1.length : Int) < (2 : Int)))) x1 (1 : Int)).bind fun x2 =>
 bif (bif (decide ((x1.length : Int) < (2 : Int))) then true else ((x2.length : Int) != (3 : Int))) then
  some (S_Start.z, (30 : Int))
 else
  (idx x1 (1 : Int)).bind fun x3 =>
  (number_ReadDec x3).bind fun x4 =>
  (idx x1 (0 : Int)).bind fun x5 =>
  (start_minor x5).bind fun x6 =>
  bif ((x1.length : Int) == (3 : Int)) then
   (idx x1 (2 : Int)).bind fun x7 =>
   (gcall (!(bif (x4.2 != (0 : Int)) then true else (x4.1 == (0 : Int)))) (start_Right (((S_Start.z.w2 (IntKind.i64.wrap x4.1)).w3 x7).w4 x6))).bind fun x8 =>
   bif (bif (bif (x4.2 != (0 : Int)) then true else (x4.1 == (0 : Int))) then true else (!x8)) then
    some (S_Start.z, (30 : Int))
   else
    some ((((S_Start.z.w2 (IntKind.i64.wrap x4.1)).w3 x7).w4 x6), (0 : Int))
  else
   (gcall (!(bif (x4.2 != (0 : Int)) then true else (x4.1 == (0 : Int)))) (start_Right ((S_Start.z.w2 (IntKind.i64.wrap x4.1)).w4 x6))).bind fun x9 =>
   bif (bif (bif (x4.2 != (0 : Int)) then true else (x4.1 == (0 : Int))) then true else (!x9)) then
    some (S_Start.z, (30 : Int))
   else
    some (((S_Start.z.w2 (IntKind.i64.wrap x4.1)).w4 x6), (0 : Int))
noncomputable def table_All_b1 (x3 : (List S_Field)) (x : ((List Bytes) × Int)) : Option (((List Bytes) × Int) ⊕ (List Bytes)) :=
 match x with
 | (s4, s5) =>
  bif (decide (s5 < (x3.length : Int))) then
   (idx x3 s5).bind fun x6 =>
   (app 16 s4 ([x6.Value] : List Bytes)).bind fun x7 =>
   some (.inl (x7, (IntKind.i64.wrap (s5 + (1 : Int)))))
  else
   some (.inr s4)
noncomputable def table_All (a0 : (List S_Field)) (a1 : Bytes) : Option (List Bytes) :=
 ((table_named a1).bind fun x2 =>
 (table_keep_api_Field a0 (fun x0 => table_named_1 x0 x2)).bind fun x3 =>
 loopO (table_All_b1 x3) (([] : List Bytes), (0 : Int)) : Option (List Bytes)).bind fun j1 =>
 some j1
noncomputable def table_Joined (a0 : (List S_Field)) (a1 : Bytes) : Option (Bytes × Bool) :=
 (table_All a0 a1).bind fun x1 =>
 (strings_Join x1 ([44, 32] : Bytes)).bind fun x2 =>
 some (x2, (decide ((x1.length : Int) > (0 : Int))))
noncomputable def frame_say_b1 (x1 : (List Bytes)) (x : (Bool × Int × S_Body)) : Option ((Bool × Int × S_Body) ⊕ (S_Body × Int)) :=
 match x with
 | (s3, s4, s5) =>
  bif (decide (s4 < (x1.length : Int))) then
   (idx x1 s4).bind fun x6 =>
   (number_ReadDec x6).bind fun x7 =>
   bif (x7.2 == (2 : Int)) then
    none
   else
    bif (bif (x7.2 == (10 : Int)) then true else (bif (decide (s4 > (0 : Int))) then (!(((1 : Int) == s5.Kind) && (((IntKind.i64.wrap x7.1) == s5.Size) && true))) else false)) then
     some (.inr (S_Body.z, (32 : Int)))
    else
     some (.inl ((bif (decide ((IntKind.i64.wrap x7.1) < (0 : Int))) then true else (decide ((IntKind.i64.wrap x7.1) > (20000 : Int)))), (IntKind.i64.wrap (s4 + (1 : Int))), (S_Body.mk (1 : Int) (IntKind.i64.wrap x7.1))))
  else
   bif s3 then
    some (.inr (S_Body.z, (2 : Int)))
   else
    some (.inr (s5, (0 : Int)))
noncomputable def frame_say (a0 : Int) (a1 : (List S_Field)) (a2 : S_Body) : Option (S_Body × Int) :=
 (table_All a1 ([67, 111, 110, 116, 101, 110, 116, 45, 76, 101, 110, 103, 116, 104] : Bytes)).bind fun x1 =>
 (table_Joined a1 ([84, 114, 97, 110, 115, 102, 101, 114, 45, 69, 110, 99, 111, 100, 105, 110, 103] : Bytes)).bind fun x2 =>
 bif x2.2 then
  none
 else
  loopO (frame_say_b1 x1) (false, (0 : Int), a2)
noncomputable def frame_Answer (a0 : S_Start) (a1 : (List S_Field)) (a2 : Bytes) : Option (S_Body × Int) :=
 (start_Right a0).bind fun x1 =>
 (gcall (!(bif (!x1) then true else (a0.Code == (0 : Int)))) (table_Right a1)).bind fun x2 =>
 bif (bif (bif (!x1) then true else (a0.Code == (0 : Int))) then true else (!x2)) then
  some (S_Body.z, (1 : Int))
 else
  bif (bif (bif (bif (decide (a0.Code < (200 : Int))) then true else (a0.Code == (204 : Int))) then true else (a0.Code == (304 : Int))) then true else (a2 == ([72, 69, 65, 68] : Bytes))) then
   some (S_Body.z, (0 : Int))
  else
   (frame_say a0.Minor a1 (S_Body.z.w0 (3 : Int))).bind fun x3 =>
   some (x3.1, x3.2)
noncomputable def wire_body (a0 : S_Reader) : Option (S_Body × Int) :=
 bif a0.Asks then
  none
 else
  (frame_Answer a0.Head.Start a0.Head.Fields a0.Method).bind fun x1 =>
  some (x1.1, x1.2)
noncomputable def wire_reading_begin_b1 (o0 : S_wire_reading) (x : Unit) : Option (Unit ⊕ Unit) :=
 (gcall o0.Reader.Asks (strings_HasPrefix o0.Reader.Buf ([10] : Bytes))).bind fun x2 =>
 (gcall (o0.Reader.Asks && (!x2)) (strings_HasPrefix o0.Reader.Buf ([13, 10] : Bytes))).bind fun x3 =>
 bif (bif o0.Reader.Asks then (bif x2 then true else x3) else false) then
  none
 else
  some (.inr ())
noncomputable def wire_reading_begin (o0 : S_wire_reading) : Option (Bool × S_wire_reading) :=
 (loopO (wire_reading_begin_b1 o0) () : Option Unit).bind fun j1 =>
 (head_End o0.Reader.Buf).bind fun x4 =>
 bif (x4.2 == (3 : Int)) then
  some (false, o0)
 else
  bif (x4.2 != (0 : Int)) then
   none
  else
   (slc o0.Reader.Buf 0 x4.1).bind fun x5 =>
   (strings_Cut x5 ([10] : Bytes)).bind fun x6 =>
   bif o0.Reader.Asks then
    none
   else
    (strings_TrimSuffix x6.1 ([13] : Bytes)).bind fun x7 =>
    (start_Status x7).bind fun x8 =>
    bif (x8.2 != (0 : Int)) then
     none
    else
     (strings_TrimSuffix x6.2.1 ([10] : Bytes)).bind fun x9 =>
     (strings_TrimSuffix x9 ([13] : Bytes)).bind fun x10 =>
     (head_Parse x10).bind fun x11 =>
     bif (x11.2 != (0 : Int)) then
      none
     else
      (wire_body (o0.Reader.w4 ((o0.Reader.Head.w0 x8.1).w1 x11.1))).bind fun x12 =>
      bif (x12.2 != (0 : Int)) then
       none
      else
       (slc o0.Reader.Buf x4.1 (o0.Reader.Buf.length : Int)).bind fun x13 =>
       bif (bif (x8.1.Code != (0 : Int)) then (decide (x8.1.Code < (200 : Int))) else false) then
        none
       else
        some (true, (o0.w0 ((((o0.Reader.w2 x13).w3 true).w4 ((o0.Reader.Head.w0 x8.1).w1 x11.1)).w5 x12.1)))
noncomputable def wire_Feed_b1 (s3 : S_wire_reading) : Option (S_wire_reading ⊕ (S_Reader × (List S_Message) × Int)) :=
 bif s3.Reader.In then
  (wire_reading_more s3).bind fun x4 =>
  bif (!x4.1) then
   some (.inr (x4.2.Reader, x4.2.out, (0 : Int)))
  else
   some (.inl x4.2)
 else
  (wire_reading_begin s3).bind fun x5 =>
  bif (!x5.1) then
   some (.inr (x5.2.Reader, x5.2.out, (0 : Int)))
  else
   some (.inl x5.2)
noncomputable def wire_Feed (a0 : S_Reader) (a1 : Bytes) : Option (S_Reader × (List S_Message) × Int) :=
 (wire_Right a0).bind fun x1 =>
 bif (!x1) then
  none
 else
  bif (a0.Bad != (0 : Int)) then
   some (a0, ([] : List S_Message), (0 : Int))
  else
   (cat a0.Buf a1).bind fun x2 =>
   loopO wire_Feed_b1 (S_wire_reading.z.w0 (S_Reader.mk a0.Asks a0.Method x2 a0.In a0.Head a0.Body a0.Chunk a0.Bad))
noncomputable def hop_words_b1 (x3 : (List Bytes)) (x : ((List Bytes) × Int)) : Option (((List Bytes) × Int) ⊕ (List Bytes)) :=
 match x with
 | (s4, s5) =>
  bif (decide (s5 < (x3.length : Int))) then
   (idx x3 s5).bind fun x6 =>
   (text_Trim x6).bind fun x7 =>
   (text_Lower x7).bind fun x8 =>
   (app 16 s4 ([x8] : List Bytes)).bind fun x9 =>
   some (.inl (x9, (IntKind.i64.wrap (s5 + (1 : Int)))))
  else
   some (.inr s4)
noncomputable def hop_words (a0 : (List S_Field)) : Option (List Bytes) :=
 (table_Joined a0 ([67, 111, 110, 110, 101, 99, 116, 105, 111, 110] : Bytes)).bind fun x1 =>
 ((strings_Split x1.1 ([44] : Bytes)).bind fun x3 =>
 loopO (hop_words_b1 x3) (([] : List Bytes), (0 : Int)) : Option (List Bytes)).bind fun j2 =>
 some j2
noncomputable def hop_Keeps_b1 (x1 : (List Bytes)) (x : (Bool × Int)) : Option ((Bool × Int) ⊕ Bool) :=
 match x with
 | (s2, s3) =>
  bif (decide (s3 < (x1.length : Int))) then
   (idx x1 s3).bind fun x4 =>
   bif (x4 == ([99, 108, 111, 115, 101] : Bytes)) then
    some (.inr false)
   else
    bif (x4 == ([107, 101, 101, 112, 45, 97, 108, 105, 118, 101] : Bytes)) then
     some (.inl (true, (IntKind.i64.wrap (s3 + (1 : Int)))))
    else
     some (.inl (s2, (IntKind.i64.wrap (s3 + (1 : Int)))))
  else
   some (.inr s2)
noncomputable def hop_Keeps (a0 : S_Start) (a1 : (List S_Field)) : Option Bool :=
 (hop_words a1).bind fun x1 =>
 loopO (hop_Keeps_b1 x1) ((a0.Minor == (1 : Int)), (0 : Int))
noncomputable def upstream_Recv (a0 : S_Up) (a1 : Int) (a2 : Bytes) : Option (S_Up × (List S_Act) × Int) :=
 (upstream_find a0 a1).bind fun x1 =>
 (upstream_Right a0).bind fun x2 =>
 bif (bif (!x2) then true else (!x1.2)) then
  some (S_Up.z, ([] : List S_Act), (1 : Int))
 else
  (chk2 (a0.Conns.length ≤ maxLen ∧ a0.Conns.length * 336 ≤ 140737488355328)).bind fun x3 =>
  (chk2 (a0.Wait.length ≤ maxLen ∧ a0.Wait.length * 80 ≤ 140737488355328)).bind fun x4 =>
  chk (0 ≤ x1.1 ∧ x1.1 < (a0.Conns.length : Int)) <|
  bif (a2 == ([] : Bytes)) then
   some (a0, ([] : List S_Act), (0 : Int))
  else
   (idx a0.Conns x1.1).bind fun x6 =>
   (upstream_idle x6).bind fun x7 =>
   bif x7 then
    none
   else
    (idx a0.Conns x1.1).bind fun x8 =>
    (wire_Feed x8.Reader a2).bind fun x9 =>
    (idx a0.Conns x1.1).bind fun x10 =>
    (idx (a0.Conns.set x1.1.toNat (x10.w3 x9.1)) x1.1).bind fun x11 =>
    bif (decide ((x9.2.1.length : Int) > (0 : Int))) then
     (idx x9.2.1 (0 : Int)).bind fun x12 =>
     (gcall ((x9.2.1.length : Int) == (1 : Int)) (upstream_fresh x9.1)).bind fun x13 =>
     chk (0 ≤ x1.1 ∧ x1.1 < (a0.Conns.length : Int)) <|
     (idx ((a0.Conns.set x1.1.toNat (x10.w3 x9.1)).set x1.1.toNat (x11.w4 true)) x1.1).bind fun x15 =>
     (app 168 ([] : List S_Act) ([(((S_Act.z.w0 (4 : Int)).w4 x15.Fetch.Id).w5 x12)] : List S_Act)).bind fun x16 =>
     (idx ((a0.Conns.set x1.1.toNat (x10.w3 x9.1)).set x1.1.toNat (x11.w4 true)) x1.1).bind fun x17 =>
     (upstream_free ((a0.Conns.set x1.1.toNat (x10.w3 x9.1)).set x1.1.toNat (x11.w4 true)) x17.Origin).bind fun x18 =>
     (gcall (!(!(bif ((x9.2.1.length : Int) == (1 : Int)) then x13 else false))) (hop_Keeps x12.Start x12.Fields)).bind fun x19 =>
     (idx ((a0.Conns.set x1.1.toNat (x10.w3 x9.1)).set x1.1.toNat (x11.w4 true)) x1.1).bind fun x20 =>
     bif (bif (bif (bif (!(bif ((x9.2.1.length : Int) == (1 : Int)) then x13 else false)) then true else (!x19)) then true else (decide (x18.1 ≥ (2 : Int)))) then true else (decide (x20.Used ≥ (1000000000 : Int)))) then
      chk (0 ≤ x1.1 ∧ x1.1 < (a0.Conns.length : Int)) <|
      (idx ((a0.Conns.set x1.1.toNat (x10.w3 x9.1)).set x1.1.toNat (x11.w4 true)) x1.1).bind fun x22 =>
      (app 168 x16 ([((S_Act.z.w0 (3 : Int)).w1 x22.Id)] : List S_Act)).bind fun x23 =>
      (del ((a0.Conns.set x1.1.toNat (x10.w3 x9.1)).set x1.1.toNat (x11.w4 true)) x1.1 (IntKind.i64.wrap (x1.1 + (1 : Int)))).bind fun x24 =>
      (upstream_work_goes (S_upstream_work.mk (S_Up.mk a0.Now a0.Next x24 a0.Wait) x23)).bind fun x25 =>
      some (((x25.2.Up.w0 x25.1.1).w1 x25.1.2.1), x25.1.2.2.1, x25.1.2.2.2)
     else
      (idx ((a0.Conns.set x1.1.toNat (x10.w3 x9.1)).set x1.1.toNat (x11.w4 true)) x1.1).bind fun x26 =>
      (idx (((a0.Conns.set x1.1.toNat (x10.w3 x9.1)).set x1.1.toNat (x11.w4 true)).set x1.1.toNat (x26.w2 S_Fetch.z)) x1.1).bind fun x27 =>
      (idx ((((a0.Conns.set x1.1.toNat (x10.w3 x9.1)).set x1.1.toNat (x11.w4 true)).set x1.1.toNat (x26.w2 S_Fetch.z)).set x1.1.toNat (x27.w3 S_Reader.z)) x1.1).bind fun x28 =>
      (idx (((((a0.Conns.set x1.1.toNat (x10.w3 x9.1)).set x1.1.toNat (x11.w4 true)).set x1.1.toNat (x26.w2 S_Fetch.z)).set x1.1.toNat (x27.w3 S_Reader.z)).set x1.1.toNat (x28.w4 false)) x1.1).bind fun x29 =>
      (idx (((((a0.Conns.set x1.1.toNat (x10.w3 x9.1)).set x1.1.toNat (x11.w4 true)).set x1.1.toNat (x26.w2 S_Fetch.z)).set x1.1.toNat (x27.w3 S_Reader.z)).set x1.1.toNat (x28.w4 false)) x1.1).bind fun x30 =>
      (upstream_work_goes (S_upstream_work.mk (S_Up.mk a0.Now a0.Next ((((((a0.Conns.set x1.1.toNat (x10.w3 x9.1)).set x1.1.toNat (x11.w4 true)).set x1.1.toNat (x26.w2 S_Fetch.z)).set x1.1.toNat (x27.w3 S_Reader.z)).set x1.1.toNat (x28.w4 false)).set x1.1.toNat (x30.w5 (IntKind.i64.wrap (x29.Used + (1 : Int))))) a0.Wait) x16)).bind fun x31 =>
      some (((x31.2.Up.w0 x31.1.1).w1 x31.1.2.1), x31.1.2.2.1, x31.1.2.2.2)
    else
     bif (x9.1.Bad != (0 : Int)) then
      none
     else
      (upstream_work_goes (S_upstream_work.z.w0 (S_Up.mk a0.Now a0.Next ((a0.Conns.set x1.1.toNat (x10.w3 x9.1)).set x1.1.toNat (x11.w4 true)) a0.Wait))).bind fun x32 =>
      some (((x32.2.Up.w0 x32.1.1).w1 x32.1.2.1), x32.1.2.2.1, x32.1.2.2.2)
noncomputable def intarsiaref22_Idle (a0 : S_Conn) : Option Bool :=
 some ((a0.Fetch.Id == (0 : Int)) && ((a0.Fetch.Origin == ([] : Bytes)) && ((a0.Fetch.Bytes == ([] : Bytes)) && ((a0.Fetch.Method == ([] : Bytes)) && ((a0.Fetch.Again == false) && ((a0.Fetch.Due == (0 : Int)) && ((a0.Fetch.Tried == false) && true)))))))
noncomputable def intarsialaw22_UpstreamLate_b1 (a1 : Int) (x2 : Bytes) (x : (Int × S_Up)) : Option ((Int × S_Up) ⊕ Bool) :=
 match x with
 | (s5, s6) =>
  bif (decide (s5 < (imin (imax a1 (0 : Int)) (12 : Int)))) then
   (upstream_Tick s6).bind fun x7 =>
   (gidx (((!(bif (x7.2.2 != (0 : Int)) then true else (!(((x7.2.1.length : Int) != (0 : Int)) == (s5 == (9 : Int)))))) && (s5 == (9 : Int))) && (!((x7.2.1.length : Int) != (2 : Int)))) x7.2.1 (0 : Int)).bind fun x8 =>
   (gidx (((!(bif (x7.2.2 != (0 : Int)) then true else (!(((x7.2.1.length : Int) != (0 : Int)) == (s5 == (9 : Int)))))) && (s5 == (9 : Int))) && (!(bif ((x7.2.1.length : Int) != (2 : Int)) then true else (x8.Bad != (62 : Int))))) x7.2.1 (1 : Int)).bind fun x9 =>
   bif (bif (bif (x7.2.2 != (0 : Int)) then true else (!(((x7.2.1.length : Int) != (0 : Int)) == (s5 == (9 : Int))))) then true else (bif (s5 == (9 : Int)) then (bif (bif ((x7.2.1.length : Int) != (2 : Int)) then true else (x8.Bad != (62 : Int))) then true else (x9.Kind != (3 : Int))) else false)) then
    some (.inr false)
   else
    some (.inl ((IntKind.i64.wrap (s5 + (1 : Int))), x7.1))
  else
   (wire_Write ((S_Message.z.w0 ((S_Start.z.w2 (200 : Int)).w4 (1 : Int))).w2 x2) false).bind fun x10 =>
   (upstream_Recv s6 (1 : Int) x10.1).bind fun x11 =>
   bif (decide ((imin (imax a1 (0 : Int)) (12 : Int)) ≥ (10 : Int))) then
    some (.inr (bif (x11.2.2 == (1 : Int)) then ((x11.2.1.length : Int) == (0 : Int)) else false))
   else
    (gidx (bif (bif (x10.2 == (0 : Int)) then (x11.2.2 == (0 : Int)) else false) then ((x11.2.1.length : Int) == (1 : Int)) else false) x11.2.1 (0 : Int)).bind fun x12 =>
    (gidx (bif (bif (bif (x10.2 == (0 : Int)) then (x11.2.2 == (0 : Int)) else false) then ((x11.2.1.length : Int) == (1 : Int)) else false) then (x12.Kind == (4 : Int)) else false) x11.2.1 (0 : Int)).bind fun x13 =>
    (gidx (bif (bif (bif (bif (x10.2 == (0 : Int)) then (x11.2.2 == (0 : Int)) else false) then ((x11.2.1.length : Int) == (1 : Int)) else false) then (x12.Kind == (4 : Int)) else false) then (x13.Bad == (0 : Int)) else false) x11.2.1 (0 : Int)).bind fun x14 =>
    (gidx (bif (bif (bif (bif (bif (bif (x10.2 == (0 : Int)) then (x11.2.2 == (0 : Int)) else false) then ((x11.2.1.length : Int) == (1 : Int)) else false) then (x12.Kind == (4 : Int)) else false) then (x13.Bad == (0 : Int)) else false) then (x14.Answer.Body == x2) else false) then ((x11.1.Conns.length : Int) == (1 : Int)) else false) x11.1.Conns (0 : Int)).bind fun x15 =>
    (gcall (bif (bif (bif (bif (bif (bif (x10.2 == (0 : Int)) then (x11.2.2 == (0 : Int)) else false) then ((x11.2.1.length : Int) == (1 : Int)) else false) then (x12.Kind == (4 : Int)) else false) then (x13.Bad == (0 : Int)) else false) then (x14.Answer.Body == x2) else false) then ((x11.1.Conns.length : Int) == (1 : Int)) else false) (intarsiaref22_Idle x15)).bind fun x16 =>
    (gidx (bif (bif (bif (bif (bif (bif (bif (x10.2 == (0 : Int)) then (x11.2.2 == (0 : Int)) else false) then ((x11.2.1.length : Int) == (1 : Int)) else false) then (x12.Kind == (4 : Int)) else false) then (x13.Bad == (0 : Int)) else false) then (x14.Answer.Body == x2) else false) then ((x11.1.Conns.length : Int) == (1 : Int)) else false) then x16 else false) x11.1.Conns (0 : Int)).bind fun x17 =>
    some (.inr (bif (bif (bif (bif (bif (bif (bif (bif (x10.2 == (0 : Int)) then (x11.2.2 == (0 : Int)) else false) then ((x11.2.1.length : Int) == (1 : Int)) else false) then (x12.Kind == (4 : Int)) else false) then (x13.Bad == (0 : Int)) else false) then (x14.Answer.Body == x2) else false) then ((x11.1.Conns.length : Int) == (1 : Int)) else false) then x16 else false) then (x17.Used == (1 : Int)) else false))
noncomputable def intarsialaw22_UpstreamLate (a0 : S_Fetch) (a1 : Int) (a2 : Bytes) : Option Bool :=
 (intarsialaw22_few a0).bind fun x1 =>
 (slc a2 0 (imin (a2.length : Int) (300 : Int))).bind fun x2 =>
 (upstream_Ask S_Up.z ((((x1.w0 (1 : Int)).w1 ([111] : Bytes)).w2 ([98] : Bytes)).w3 ([71, 69, 84] : Bytes))).bind fun x3 =>
 (gcall (!(x3.2.2 != (0 : Int))) intarsialaw22_alive).bind fun x4 =>
 bif (bif (x3.2.2 != (0 : Int)) then true else (!x4)) then
  some false
 else
  loopO (intarsialaw22_UpstreamLate_b1 a1 x2) ((0 : Int), x3.1)
end Go.Proofs.YtommkfooolabhaaGreatDoor
