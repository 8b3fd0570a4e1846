/-
  The plain images of the functions, written by a program of mine (gen.py) off the translation.
-/
import Derived.Test.YtkfoahoplndelaaGreatDoorIw1
import Derived.Test.YtkfoahoplndelaaGreatDoorGi3
import Derived.Test.YtkfoahoplndelaaGreatDoorIh1
import Derived.Test.YtkfoahoplndelaaGreatDoorGi1
namespace Go.Proofs.YtkfoahoplndelaaGreatDoor
open Go Go.Pm
set_option linter.unusedVariables false
structure S_Queue where
 Bytes : Bytes
 Cap : Int
instance : Inhabited S_Queue := ⟨⟨default, default⟩⟩
def S_Queue.cells (x : S_Queue) : List AV := [AV.str x.Bytes, AV.int .i64 x.Cap]
def S_Queue.av (x : S_Queue) : AV := .agg (S_Queue.cells x)
structure S_Client where
 Reader : S_Reader
 Ready : (List S_Message)
 Last : Bool
 Fault : Int
 Out : S_Queue
 Ends : Bool
instance : Inhabited S_Client := ⟨⟨default, default, default, default, default, default⟩⟩
def S_Client.cells (x : S_Client) : List AV := [AV.bool x.Reader.Asks, AV.str x.Reader.Method, AV.str x.Reader.Buf, AV.bool x.Reader.In, AV.str x.Reader.Head.Start.Method, AV.str x.Reader.Head.Start.Target, AV.int .i64 x.Reader.Head.Start.Code, AV.str x.Reader.Head.Start.Reason, AV.int .i64 x.Reader.Head.Start.Minor, AV.list 2 (x.Reader.Head.Fields.map S_Field.av), AV.str x.Reader.Head.Body, AV.int .i64 x.Reader.Body.Kind, AV.int .i64 x.Reader.Body.Size, AV.int .i64 x.Reader.Chunk.Stage, AV.str x.Reader.Chunk.Line, AV.int .i64 x.Reader.Chunk.Left, AV.int .i64 x.Reader.Chunk.Size, AV.int .i64 x.Reader.Bad, AV.list 7 (x.Ready.map S_Message.av), AV.bool x.Last, AV.int .i64 x.Fault, AV.str x.Out.Bytes, AV.int .i64 x.Out.Cap, AV.bool x.Ends]
def S_Client.av (x : S_Client) : AV := .agg (S_Client.cells x)
noncomputable def queue_New (a0 : Int) : Option (S_Queue × Int) :=
 bif (bif (decide (a0 < (1 : Int))) then true else (decide (a0 > (65536 : Int)))) then
  some ((S_Queue.mk ([] : Bytes) (0 : Int)), (1 : Int))
 else
  some ((S_Queue.mk ([] : Bytes) a0), (0 : Int))
noncomputable def client_New : Option S_Client :=
 (queue_New (16384 : Int)).bind fun x1 =>
 (wire_New true ([] : Bytes)).bind fun x2 =>
 some (S_Client.mk x2 ([] : List S_Message) false (0 : Int) x1.1 false)
noncomputable def queue_Right (a0 : S_Queue) : Option Bool :=
 some (bif (bif (decide (a0.Cap ≥ (1 : Int))) then (decide (a0.Cap ≤ (65536 : Int))) else false) then (decide ((a0.Bytes.length : Int) ≤ a0.Cap)) else false)
noncomputable def client_Right (a0 : S_Client) : Option Bool :=
 (wire_Right a0.Reader).bind fun x1 =>
 (gcall (!(bif (bif (bif (!x1) then true else (!a0.Reader.Asks)) then true else (!(a0.Reader.Method == ([] : Bytes)))) then true else (decide ((a0.Ready.length : Int) > (8 : Int))))) (queue_Right a0.Out)).bind fun x2 =>
 bif (bif (bif (bif (bif (bif (!x1) then true else (!a0.Reader.Asks)) then true else (!(a0.Reader.Method == ([] : Bytes)))) then true else (decide ((a0.Ready.length : Int) > (8 : Int)))) then true else (!x2)) then true else (a0.Out.Cap != (16384 : Int))) then
  some false
 else
  some (bif (bif (a0.Fault == a0.Reader.Bad) then true else (a0.Fault == (4 : Int))) then (bif a0.Last then true else (bif (a0.Fault == (0 : Int)) then (!a0.Ends) else false)) else false)
noncomputable def slices_Clip__api_Message_api_Message (a0 : (List S_Message)) : Option (List S_Message) :=
 (slc a0 0 (a0.length : Int)).bind fun x1 =>
 some x1
noncomputable def client_Recv_1 (o0 : S_Client) (c0 : Bytes) : Option ((Int × Int) × S_Client) :=
 bif o0.Last then
  some (((0 : Int), (0 : Int)), o0)
 else
  (wire_Feed o0.Reader c0).bind fun x1 =>
  (slices_Clip__api_Message_api_Message o0.Ready).bind fun x2 =>
  (slc x1.2.1 0 (imin (x1.2.1.length : Int) (IntKind.i64.wrap ((8 : Int) - (o0.Ready.length : Int))))).bind fun x3 =>
  (app 104 x2 x3).bind fun x4 =>
  bif (decide ((x1.2.1.length : Int) > (IntKind.i64.wrap ((8 : Int) - (o0.Ready.length : Int))))) then
   some (((0 : Int), x1.2.2), (S_Client.mk x1.1 x4 ((4 : Int) != (0 : Int)) (4 : Int) o0.Out o0.Ends))
  else
   some (((0 : Int), x1.2.2), (S_Client.mk x1.1 x4 (x1.1.Bad != (0 : Int)) x1.1.Bad o0.Out o0.Ends))
noncomputable def client_call_int_client_Recv_1 (a0 : S_Client) (a1k0 : Bytes) : Option (S_Client × Int × Int) :=
 (client_Right a0).bind fun x1 =>
 bif (!x1) then
  some ((S_Client.mk (S_Reader.mk false ([] : Bytes) ([] : Bytes) false (S_Message.mk (S_Start.mk ([] : Bytes) ([] : Bytes) (0 : Int) ([] : Bytes) (0 : Int)) ([] : List S_Field) ([] : Bytes)) (S_Body.mk (0 : Int) (0 : Int)) (S_Chunked.mk (0 : Int) ([] : Bytes) (0 : Int) (0 : Int)) (0 : Int)) ([] : List S_Message) false (0 : Int) (S_Queue.mk ([] : Bytes) (0 : Int)) false), (0 : Int), (1 : Int))
 else
  (client_Recv_1 a0 a1k0).bind fun x2 =>
  bif (x2.1.2 != (0 : Int)) then
   some ((S_Client.mk (S_Reader.mk false ([] : Bytes) ([] : Bytes) false (S_Message.mk (S_Start.mk ([] : Bytes) ([] : Bytes) (0 : Int) ([] : Bytes) (0 : Int)) ([] : List S_Field) ([] : Bytes)) (S_Body.mk (0 : Int) (0 : Int)) (S_Chunked.mk (0 : Int) ([] : Bytes) (0 : Int) (0 : Int)) (0 : Int)) ([] : List S_Message) false (0 : Int) (S_Queue.mk ([] : Bytes) (0 : Int)) false), (0 : Int), x2.1.2)
  else
   some (x2.2, x2.1.1, (0 : Int))
noncomputable def client_Recv (a0 : S_Client) (a1 : Bytes) : Option (S_Client × Int) :=
 (client_call_int_client_Recv_1 a0 a1).bind fun x1 =>
 some (x1.1, x1.2.2)
noncomputable def intarsialaw23_alive : Option Bool :=
 client_New.bind fun x1 =>
 (client_Recv x1 ([71, 69, 84, 32, 47, 32, 72, 84, 84, 80, 47, 49, 46, 49, 13, 10, 13, 10] : Bytes)).bind fun x2 =>
 (gidx (bif (x2.2 == (0 : Int)) then ((x2.1.Ready.length : Int) == (1 : Int)) else false) x2.1.Ready (0 : Int)).bind fun x3 =>
 some (bif (bif (x2.2 == (0 : Int)) then ((x2.1.Ready.length : Int) == (1 : Int)) else false) then (x3.Start.Target == ([47] : Bytes)) else false)
noncomputable def intarsiaref23_Like (a0 : S_Client) (a1 : S_Client) : Option Bool :=
 (intarsiaref10_LikeReader a0.Reader a1.Reader).bind fun x1 =>
 (gcall x1 (intarsiaref10_Same a0.Ready a1.Ready)).bind fun x2 =>
 some (bif (bif (bif (bif (bif x1 then x2 else false) then (a0.Last == a1.Last) else false) then (a0.Fault == a1.Fault) else false) then ((a0.Out.Bytes == a1.Out.Bytes) && ((a0.Out.Cap == a1.Out.Cap) && true)) else false) then (a0.Ends == a1.Ends) else false)
noncomputable def client_End_1 (o0 : S_Client) : Option ((Int × Int) × S_Client) :=
 some (((0 : Int), (0 : Int)), (S_Client.mk o0.Reader o0.Ready true o0.Fault o0.Out true))
noncomputable def client_call_int_client_End_1 (a0 : S_Client) : Option (S_Client × Int × Int) :=
 (client_Right a0).bind fun x1 =>
 bif (!x1) then
  some ((S_Client.mk (S_Reader.mk false ([] : Bytes) ([] : Bytes) false (S_Message.mk (S_Start.mk ([] : Bytes) ([] : Bytes) (0 : Int) ([] : Bytes) (0 : Int)) ([] : List S_Field) ([] : Bytes)) (S_Body.mk (0 : Int) (0 : Int)) (S_Chunked.mk (0 : Int) ([] : Bytes) (0 : Int) (0 : Int)) (0 : Int)) ([] : List S_Message) false (0 : Int) (S_Queue.mk ([] : Bytes) (0 : Int)) false), (0 : Int), (1 : Int))
 else
  (client_End_1 a0).bind fun x2 =>
  bif (x2.1.2 != (0 : Int)) then
   some ((S_Client.mk (S_Reader.mk false ([] : Bytes) ([] : Bytes) false (S_Message.mk (S_Start.mk ([] : Bytes) ([] : Bytes) (0 : Int) ([] : Bytes) (0 : Int)) ([] : List S_Field) ([] : Bytes)) (S_Body.mk (0 : Int) (0 : Int)) (S_Chunked.mk (0 : Int) ([] : Bytes) (0 : Int) (0 : Int)) (0 : Int)) ([] : List S_Message) false (0 : Int) (S_Queue.mk ([] : Bytes) (0 : Int)) false), (0 : Int), x2.1.2)
  else
   some (x2.2, x2.1.1, (0 : Int))
noncomputable def client_End (a0 : S_Client) : Option (S_Client × Int) :=
 (client_call_int_client_End_1 a0).bind fun x1 =>
 some (x1.1, x1.2.2)
noncomputable def queue_Room (a0 : S_Queue) : Option Int :=
 (queue_Right a0).bind fun x1 =>
 bif (!x1) then
  some (0 : Int)
 else
  some (IntKind.i64.wrap (a0.Cap - (a0.Bytes.length : Int)))
noncomputable def queue_Put (a0 : S_Queue) (a1 : Bytes) : Option (S_Queue × Int × Int) :=
 (queue_Right a0).bind fun x1 =>
 bif (!x1) then
  some ((S_Queue.mk ([] : Bytes) (0 : Int)), (0 : Int), (1 : Int))
 else
  (queue_Room a0).bind fun x2 =>
  (slc a1 0 (imin (a1.length : Int) x2)).bind fun x3 =>
  (cat a0.Bytes x3).bind fun x4 =>
  some ((S_Queue.mk x4 a0.Cap), (imin (a1.length : Int) x2), (0 : Int))
noncomputable def client_Put_1 (o0 : S_Client) (c0 : Bytes) : Option ((Int × Int) × S_Client) :=
 bif o0.Ends then
  some (((0 : Int), (0 : Int)), o0)
 else
  (queue_Put o0.Out c0).bind fun x1 =>
  some ((x1.2.1, x1.2.2), (S_Client.mk o0.Reader o0.Ready o0.Last o0.Fault x1.1 o0.Ends))
noncomputable def client_call_int_client_Put_1 (a0 : S_Client) (a1k0 : Bytes) : Option (S_Client × Int × Int) :=
 (client_Right a0).bind fun x1 =>
 bif (!x1) then
  some ((S_Client.mk (S_Reader.mk false ([] : Bytes) ([] : Bytes) false (S_Message.mk (S_Start.mk ([] : Bytes) ([] : Bytes) (0 : Int) ([] : Bytes) (0 : Int)) ([] : List S_Field) ([] : Bytes)) (S_Body.mk (0 : Int) (0 : Int)) (S_Chunked.mk (0 : Int) ([] : Bytes) (0 : Int) (0 : Int)) (0 : Int)) ([] : List S_Message) false (0 : Int) (S_Queue.mk ([] : Bytes) (0 : Int)) false), (0 : Int), (1 : Int))
 else
  (client_Put_1 a0 a1k0).bind fun x2 =>
  bif (x2.1.2 != (0 : Int)) then
   some ((S_Client.mk (S_Reader.mk false ([] : Bytes) ([] : Bytes) false (S_Message.mk (S_Start.mk ([] : Bytes) ([] : Bytes) (0 : Int) ([] : Bytes) (0 : Int)) ([] : List S_Field) ([] : Bytes)) (S_Body.mk (0 : Int) (0 : Int)) (S_Chunked.mk (0 : Int) ([] : Bytes) (0 : Int) (0 : Int)) (0 : Int)) ([] : List S_Message) false (0 : Int) (S_Queue.mk ([] : Bytes) (0 : Int)) false), (0 : Int), x2.1.2)
  else
   some (x2.2, x2.1.1, (0 : Int))
noncomputable def client_Put (a0 : S_Client) (a1 : Bytes) : Option (S_Client × Int × Int) :=
 (client_call_int_client_Put_1 a0 a1).bind fun x1 =>
 some (x1.1, x1.2.1, x1.2.2)
noncomputable def client_Over (a0 : S_Client) : Option Bool :=
 (client_Right a0).bind fun x1 =>
 some (bif (bif x1 then a0.Ends else false) then (a0.Out.Bytes == ([] : Bytes)) else false)
noncomputable def queue_off (a0 : S_Queue) (a1i : Bytes → Option Int) : Option (S_Queue × Bytes × Int) :=
 (queue_Right a0).bind fun x1 =>
 bif (!x1) then
  some ((S_Queue.mk ([] : Bytes) (0 : Int)), ([] : Bytes), (1 : Int))
 else
  (a1i a0.Bytes).bind fun x2 =>
  bif (decide (x2 < (0 : Int))) then
   some (a0, ([] : Bytes), (3 : Int))
  else
   (slc a0.Bytes x2 (a0.Bytes.length : Int)).bind fun x3 =>
   (slc a0.Bytes 0 x2).bind fun x4 =>
   some ((S_Queue.mk x3 a0.Cap), x4, (0 : Int))
noncomputable def queue_Take_1 (a0 : Bytes) (c0 : Int) : Option Int :=
 some (imin c0 (a0.length : Int))
noncomputable def queue_Take (a0 : S_Queue) (a1 : Int) : Option (S_Queue × Bytes × Int) :=
 bif (decide (a1 < (0 : Int))) then
  some ((S_Queue.mk ([] : Bytes) (0 : Int)), ([] : Bytes), (1 : Int))
 else
  (queue_off a0 (fun x0 => queue_Take_1 x0 a1)).bind fun x1 =>
  some (x1.1, x1.2.1, x1.2.2)
noncomputable def client_Write_1 (o0 : S_Client) (c0 : Int) : Option ((Bytes × Int) × S_Client) :=
 (queue_Take o0.Out c0).bind fun x1 =>
 some ((x1.2.1, x1.2.2), (S_Client.mk o0.Reader o0.Ready o0.Last o0.Fault x1.1 o0.Ends))
noncomputable def client_call_string_client_Write_1 (a0 : S_Client) (a1k0 : Int) : Option (S_Client × Bytes × Int) :=
 (client_Right a0).bind fun x1 =>
 bif (!x1) then
  some ((S_Client.mk (S_Reader.mk false ([] : Bytes) ([] : Bytes) false (S_Message.mk (S_Start.mk ([] : Bytes) ([] : Bytes) (0 : Int) ([] : Bytes) (0 : Int)) ([] : List S_Field) ([] : Bytes)) (S_Body.mk (0 : Int) (0 : Int)) (S_Chunked.mk (0 : Int) ([] : Bytes) (0 : Int) (0 : Int)) (0 : Int)) ([] : List S_Message) false (0 : Int) (S_Queue.mk ([] : Bytes) (0 : Int)) false), ([] : Bytes), (1 : Int))
 else
  (client_Write_1 a0 a1k0).bind fun x2 =>
  bif (x2.1.2 != (0 : Int)) then
   some ((S_Client.mk (S_Reader.mk false ([] : Bytes) ([] : Bytes) false (S_Message.mk (S_Start.mk ([] : Bytes) ([] : Bytes) (0 : Int) ([] : Bytes) (0 : Int)) ([] : List S_Field) ([] : Bytes)) (S_Body.mk (0 : Int) (0 : Int)) (S_Chunked.mk (0 : Int) ([] : Bytes) (0 : Int) (0 : Int)) (0 : Int)) ([] : List S_Message) false (0 : Int) (S_Queue.mk ([] : Bytes) (0 : Int)) false), ([] : Bytes), x2.1.2)
  else
   some (x2.2, x2.1.1, (0 : Int))
noncomputable def client_Write (a0 : S_Client) (a1 : Int) : Option (S_Client × Bytes × Int) :=
 (client_call_string_client_Write_1 a0 a1).bind fun x1 =>
 some (x1.1, x1.2.1, x1.2.2)
noncomputable def intarsialaw23_ClientWrites_b1 (a0 : (List Bytes)) (a1 : (List Int)) (x : (Bytes × Bytes × Int × S_Client)) : Option ((Bytes × Bytes × Int × S_Client) ⊕ Bool) :=
 match x with
 | (s2, s3, s4, s5) =>
  bif (decide (s4 < (a0.length : Int))) then
   (idx a0 s4).bind fun x6 =>
   bif (decide (s4 ≥ (20 : Int))) then
    (client_End s5).bind fun x7 =>
    (client_Put x7.1 ([109, 111, 114, 101] : Bytes)).bind fun x8 =>
    (gcall (!(bif (bif (x7.2 != (0 : Int)) then true else (x8.2.2 != (0 : Int))) then true else (x8.2.1 != (0 : Int)))) (intarsiaref23_Like x7.1 x8.1)).bind fun x9 =>
    (gcall (!(bif (bif (bif (x7.2 != (0 : Int)) then true else (x8.2.2 != (0 : Int))) then true else (x8.2.1 != (0 : Int))) then true else (!x9))) (client_Over x7.1)).bind fun x10 =>
    (gcall (!(bif (bif (bif (bif (x7.2 != (0 : Int)) then true else (x8.2.2 != (0 : Int))) then true else (x8.2.1 != (0 : Int))) then true else (!x9)) then true else (!(x10 == (s2 == s3))))) intarsialaw23_alive).bind fun x11 =>
    bif (bif (bif (bif (bif (bif (x7.2 != (0 : Int)) then true else (x8.2.2 != (0 : Int))) then true else (x8.2.1 != (0 : Int))) then true else (!x9)) then true else (!(x10 == (s2 == s3)))) then true else (!x11)) then
     some (.inr false)
    else
     (client_Write x7.1 (20000 : Int)).bind fun x12 =>
     (gcat (x12.2.2 == (0 : Int)) s3 x12.2.1).bind fun x13 =>
     (gcall (bif (x12.2.2 == (0 : Int)) then (x13 == s2) else false) (client_Over x12.1)).bind fun x14 =>
     some (.inr (bif (bif (x12.2.2 == (0 : Int)) then (x13 == s2) else false) then x14 else false))
   else
    (slc x6 0 (imin (x6.length : Int) (3000 : Int))).bind fun x15 =>
    (client_Put s5 x15).bind fun x16 =>
    bif (bif (bif (x16.2.2 != (0 : Int)) then true else (decide (x16.2.1 < (0 : Int)))) then true else (decide (x16.2.1 > (x15.length : Int)))) then
     some (.inr false)
    else
     (slc x15 0 x16.2.1).bind fun x17 =>
     (cat s2 x17).bind fun x18 =>
     bif (decide (s4 < (a1.length : Int))) then
      (idx a1 s4).bind fun x19 =>
      (client_Write x16.1 (imax x19 (0 : Int))).bind fun x20 =>
      (gidx (!(x20.2.2 != (0 : Int))) a1 s4).bind fun x21 =>
      bif (bif (x20.2.2 != (0 : Int)) then true else (decide ((x20.2.1.length : Int) > (imax x21 (0 : Int))))) then
       some (.inr false)
      else
       (cat s3 x20.2.1).bind fun x22 =>
       some (.inl (x18, x22, (IntKind.i64.wrap (s4 + (1 : Int))), x20.1))
     else
      some (.inl (x18, s3, (IntKind.i64.wrap (s4 + (1 : Int))), x16.1))
  else
   (client_End s5).bind fun x23 =>
   (client_Put x23.1 ([109, 111, 114, 101] : Bytes)).bind fun x24 =>
   (gcall (!(bif (bif (x23.2 != (0 : Int)) then true else (x24.2.2 != (0 : Int))) then true else (x24.2.1 != (0 : Int)))) (intarsiaref23_Like x23.1 x24.1)).bind fun x25 =>
   (gcall (!(bif (bif (bif (x23.2 != (0 : Int)) then true else (x24.2.2 != (0 : Int))) then true else (x24.2.1 != (0 : Int))) then true else (!x25))) (client_Over x23.1)).bind fun x26 =>
   (gcall (!(bif (bif (bif (bif (x23.2 != (0 : Int)) then true else (x24.2.2 != (0 : Int))) then true else (x24.2.1 != (0 : Int))) then true else (!x25)) then true else (!(x26 == (s2 == s3))))) intarsialaw23_alive).bind fun x27 =>
   bif (bif (bif (bif (bif (bif (x23.2 != (0 : Int)) then true else (x24.2.2 != (0 : Int))) then true else (x24.2.1 != (0 : Int))) then true else (!x25)) then true else (!(x26 == (s2 == s3)))) then true else (!x27)) then
    some (.inr false)
   else
    (client_Write x23.1 (20000 : Int)).bind fun x28 =>
    (gcat (x28.2.2 == (0 : Int)) s3 x28.2.1).bind fun x29 =>
    (gcall (bif (x28.2.2 == (0 : Int)) then (x29 == s2) else false) (client_Over x28.1)).bind fun x30 =>
    some (.inr (bif (bif (x28.2.2 == (0 : Int)) then (x29 == s2) else false) then x30 else false))
noncomputable def intarsialaw23_ClientWrites (a0 : (List Bytes)) (a1 : (List Int)) : Option Bool :=
 client_New.bind fun x1 =>
 loopO (intarsialaw23_ClientWrites_b1 a0 a1) (([] : Bytes), ([] : Bytes), (0 : Int), x1)
end Go.Proofs.YtkfoahoplndelaaGreatDoor
