/-
  WireWild: for every input the law returns true, and each argument reads afterwards as it read before (the whole statement, no bound on the input); the listed package-level variables start as the program's text lays them.
-/
import Derived.Test.YtkfoahoplndelaaGreatDoorCards
import Derived.Test.YtkfoahoplndelaaGreatDoorTie
import Derived.Test.YtkfoahoplndelaaGreatDoorPm26
import Derived.Test.YtkfoahoplndelaaGreatDoorWk12
import Derived.Test.YtkfoahoplndelaaGreatDoorPw4
import Derived.WalkKit
import Derived.ProofKit
import Derived.OpenShut
import Derived.Deep.DeepHandedRow
import Derived.Deep.DeepLaidRun
import Derived.Lib.LaidTab
import Derived.Stop.LaidErr
namespace Go.Proofs.YtkfoahoplndelaaGreatDoor.lawWireWild
open Go Go.Pm Go.ChangeShapes Go.WideShapes Go.ChangeAt Go.RowKit
set_option maxRecDepth 100000
set_option linter.unusedVariables false
theorem opn4 {H : Type} (enc : TypeId × Value → H) (W : World) : Opn enc Tryz.prog W 4 Bool (fun b => [.bool b]) := Opn.bool Tryz.underlying4
theorem opn9 {H : Type} (enc : TypeId × Value → H) (W : World) : Opn enc Tryz.prog W 9 Bytes (fun s => [.str s]) := Opn.str Tryz.underlying9
theorem opn3 {H : Type} (enc : TypeId × Value → H) (W : World) : Opn enc Tryz.prog W 3 Int (fun n => [.int .i64 n]) := Opn.int Tryz.underlying3
theorem opn43 {H : Type} (enc : TypeId × Value → H) (W : World) : Opn enc Tryz.prog W 43 S_Start (S_Start.cells) :=
  (Opn.struct Tryz.underlying43 (by kernel_rfl) (OpnF.cons (off := 0) (n := 1) (opn9 enc W) rfl (by kernel_rfl) (OpnF.cons (off := 1) (n := 1) (opn9 enc W) rfl (by kernel_rfl) (OpnF.cons (off := 2) (n := 1) (opn3 enc W) rfl (by kernel_rfl) (OpnF.cons (off := 3) (n := 1) (opn9 enc W) rfl (by kernel_rfl) (OpnF.cons (off := 4) (n := 1) (opn3 enc W) rfl (by kernel_rfl) OpnF.nil)))))).map (fun a => S_Start.mk (a.1) (a.2.1) (a.2.2.1) (a.2.2.2.1) (a.2.2.2.2.1)) (fun a => rfl)
theorem opn125 {H : Type} (enc : TypeId × Value → H) (W : World) : Opn enc Tryz.prog W 125 S_Field (S_Field.cells) :=
  (Opn.struct Tryz.underlying125 (by kernel_rfl) (OpnF.cons (off := 0) (n := 1) (opn9 enc W) rfl (by kernel_rfl) (OpnF.cons (off := 1) (n := 1) (opn9 enc W) rfl (by kernel_rfl) OpnF.nil))).map (fun a => S_Field.mk (a.1) (a.2.1)) (fun a => rfl)
theorem opn44 {H : Type} (enc : TypeId × Value → H) (W : World) : Opn enc Tryz.prog W 44 (List S_Field) (fun xs => [.list 2 (xs.map S_Field.av)]) :=
  Opn.slice Tryz.underlying44 2 (by kernel_rfl) (Nat.le_of_ble_eq_true rfl) (fun _ => rfl) (opn125 enc W)
theorem opn46 {H : Type} (enc : TypeId × Value → H) (W : World) : Opn enc Tryz.prog W 46 S_Message (S_Message.cells) :=
  (Opn.struct Tryz.underlying46 (by kernel_rfl) (OpnF.cons (off := 0) (n := 5) (opn43 enc W) rfl (by kernel_rfl) (OpnF.cons (off := 5) (n := 1) (opn44 enc W) rfl (by kernel_rfl) (OpnF.cons (off := 6) (n := 1) (opn9 enc W) rfl (by kernel_rfl) OpnF.nil)))).map (fun a => S_Message.mk (a.1) (a.2.1) (a.2.2.1)) (fun a => rfl)
theorem opn48 {H : Type} (enc : TypeId × Value → H) (W : World) : Opn enc Tryz.prog W 48 S_Body (S_Body.cells) :=
  (Opn.struct Tryz.underlying48 (by kernel_rfl) (OpnF.cons (off := 0) (n := 1) (opn3 enc W) rfl (by kernel_rfl) (OpnF.cons (off := 1) (n := 1) (opn3 enc W) rfl (by kernel_rfl) OpnF.nil))).map (fun a => S_Body.mk (a.1) (a.2.1)) (fun a => rfl)
theorem opn50 {H : Type} (enc : TypeId × Value → H) (W : World) : Opn enc Tryz.prog W 50 S_Chunked (S_Chunked.cells) :=
  (Opn.struct Tryz.underlying50 (by kernel_rfl) (OpnF.cons (off := 0) (n := 1) (opn3 enc W) rfl (by kernel_rfl) (OpnF.cons (off := 1) (n := 1) (opn9 enc W) rfl (by kernel_rfl) (OpnF.cons (off := 2) (n := 1) (opn3 enc W) rfl (by kernel_rfl) (OpnF.cons (off := 3) (n := 1) (opn3 enc W) rfl (by kernel_rfl) OpnF.nil))))).map (fun a => S_Chunked.mk (a.1) (a.2.1) (a.2.2.1) (a.2.2.2.1)) (fun a => rfl)
theorem opn27 {H : Type} (enc : TypeId × Value → H) (W : World) : Opn enc Tryz.prog W 27 Int (fun n => [.int .i64 n]) := Opn.int Tryz.underlying27
theorem opn52 {H : Type} (enc : TypeId × Value → H) (W : World) : Opn enc Tryz.prog W 52 S_Reader (S_Reader.cells) :=
  (Opn.struct Tryz.underlying52 (by kernel_rfl) (OpnF.cons (off := 0) (n := 1) (opn4 enc W) rfl (by kernel_rfl) (OpnF.cons (off := 1) (n := 1) (opn9 enc W) rfl (by kernel_rfl) (OpnF.cons (off := 2) (n := 1) (opn9 enc W) rfl (by kernel_rfl) (OpnF.cons (off := 3) (n := 1) (opn4 enc W) rfl (by kernel_rfl) (OpnF.cons (off := 4) (n := 7) (opn46 enc W) rfl (by kernel_rfl) (OpnF.cons (off := 11) (n := 2) (opn48 enc W) rfl (by kernel_rfl) (OpnF.cons (off := 13) (n := 4) (opn50 enc W) rfl (by kernel_rfl) (OpnF.cons (off := 17) (n := 1) (opn27 enc W) rfl (by kernel_rfl) OpnF.nil))))))))).map (fun a => S_Reader.mk (a.1) (a.2.1) (a.2.2.1) (a.2.2.2.1) (a.2.2.2.2.1) (a.2.2.2.2.2.1) (a.2.2.2.2.2.2.1) (a.2.2.2.2.2.2.2.1)) (fun a => rfl)
theorem own : ownKnob Tryz.prog.godebug = none := by kernel_rfl
theorem laidOut : laidOutB Tryz.prog = true := by kernel_rfl
theorem bod : bodied Tryz.prog 9 := ⟨_, Tryz.func9, by kernel_rfl, by kernel_rfl⟩
theorem rec9 : Tryz.prog.readableRec 9 = true ∧ 9 < Tryz.prog.types.size := ⟨by kernel_rfl, of_decide_eq_true (by kernel_rfl)⟩
theorem rec52 : Tryz.prog.readableRec 52 = true ∧ 52 < Tryz.prog.types.size := ⟨by kernel_rfl, of_decide_eq_true (by kernel_rfl)⟩
theorem recs : ∀ t, t ∈ Tryz.f9.params.toList → Tryz.prog.readableRec t = true ∧ t < Tryz.prog.types.size := by
  rw [Tryz.params9]
  intro t ht
  simp only [List.mem_cons, List.mem_nil_iff, or_false] at ht
  rcases ht with rfl | rfl
  · exact rec52
  · exact rec9
theorem contract (H : Type) (enc : TypeId × Value → H) (W : World) (base : Nat) (args : Array Value) (ds gs : List (DataW H)) (before : List MemPlace)
    (hval : ∀ (j : Nat) t v, Tryz.f9.params[j]? = some t → args[j]? = some v → Value.okWide Tryz.prog W .any base t v)
    (hW : DataW.Whole enc Tryz.prog Tryz.f9.params.toList Rows.wireWildSpec.vars false W args.toList ds gs before) (hL : laidMetH Tryz.prog Rows.wireWildRow.laid W) (hsh : W.ShapedOpen Tryz.prog) :
    Calls Tryz.prog 9 args W fun e W' => ∃ v, e = .returned v ∧ Rows.wireWildSpec.post enc Tryz.prog Tryz.f9 false true false false W args v W' := by
  have hW' := hW
  obtain ⟨p, q, hA0, hV, rfl, hfz, hnd⟩ := hW
  have hA : DataW.TrodAll enc Tryz.prog W 0 (fun _ => true) true Tryz.f9.params.toList args.toList ds p := hA0
  rw [Tryz.params9] at hA hval
  obtain ⟨v0, vs0, d0, ds0, p0, q0, hargs, rfl, rfl, h0, r0⟩ := trodAll_cons hA
  obtain ⟨v1, vs1, d1, ds1, p1, q1, rfl, rfl, rfl, h1, r1⟩ := trodAll_cons r0
  obtain ⟨rfl, rfl, rfl⟩ := trodAll_nil r1
  obtain rfl : args = #[v0, v1] := by cases args; simp_all
  obtain ⟨rfl, rfl⟩ := trodVars_none hV
  obtain ⟨a0, k0⟩ := Opn.argS Tryz.underlying52 (hval 0 52 v0 rfl rfl) (opn52 enc W) h0
  obtain ⟨a1, k1⟩ := Opn.argStr Tryz.underlying9 (hval 1 9 v1 rfl rfl) h1
  haveI : LaidM ⟨W, W.heap.size⟩ := laidM_of hsh
  refine law_post (E := ⟨W, W.heap.size⟩) (own := false) (avs := [S_Reader.av a0, AV.str a1]) rfl (Nat.le_refl _) bod (intarsialaw10_WireWild_ok ⟨W, W.heap.size⟩ a0 a1 true (WireWild_true a0 a1)) rfl ?_ hW' rfl rfl rfl rfl laidOut recs (by kernel_rfl) Tryz.underlying4
  intro i v c hv hc
  match i, hv, hc with
  | 0, hv, hc => cases hv; cases hc; exact k0
  | 1, hv, hc => cases hv; cases hc; exact k1
noncomputable def flatV : Nat → DataW Unit → List Value
  | _ + 1, .lit (.int k v) => [.int k v]
  | m + 1, .agg ps => ps.flatMap (flatV m)
  | _, _ => []
noncomputable def setT (name : String) (d : DataW Unit) (h : Array Obj) : Array Obj :=
  match Tryz.prog.globalNamed name with
  | some g => h.modify g fun
    | .cells _ t frozen => .cells (flatV 5 d).toArray t frozen
    | o => o
  | none => h
noncomputable def laidWorld (os : Os) : World :=
  { World.holding Tryz.prog os ⟨#[], #[], []⟩ with heap := setT "unicode/utf8.acceptRanges" Rows.laid_unicode_utf8_acceptRanges (setT "unicode/utf8.first" Rows.laid_unicode_utf8_first (World.holding Tryz.prog os ⟨#[], #[], []⟩).heap) }
noncomputable def zeros : Array Value := #[.agg #[.bool false, .string ⟨#[]⟩, .string ⟨#[]⟩, .bool false, .string ⟨#[]⟩, .string ⟨#[]⟩, .int .i64 0, .string ⟨#[]⟩, .int .i64 0, .slice none 0 0, .string ⟨#[]⟩, .int .i64 0, .int .i64 0, .int .i64 0, .string ⟨#[]⟩, .int .i64 0, .int .i64 0, .int .i64 0], .string ⟨#[]⟩]
theorem laid_met (os : Os) : laidMet Tryz.prog Rows.wireWildRow.laid ((laidWorld os).forCall (fun _ _ => 0) ⟨#[], zeros, []⟩).memory :=
  laidMet_of_run3 8 (by kernel_rfl) (by kernel_rfl) (by kernel_rfl)
theorem reads (os : Os) {H : Type} (enc : TypeId × Value → H) : ∃ places, DataW.whole enc Tryz.prog ((laidWorld os).forCall (fun _ _ => 0) ⟨#[], zeros, []⟩).memory Tryz.f9.params.toList Rows.wireWildSpec.vars false zeros.toList 8 = some ([.agg [.lit (.bool false), .lit (.string []), .lit (.string []), .lit (.bool false), .agg [.agg [.lit (.string []), .lit (.string []), .lit (.int .i64 0), .lit (.string []), .lit (.int .i64 0)], .nil, .lit (.string [])], .agg [.lit (.int .i64 0), .lit (.int .i64 0)], .agg [.lit (.int .i64 0), .lit (.string []), .lit (.int .i64 0), .lit (.int .i64 0)], .lit (.int .i64 0)], .lit (.string [])], [], places) :=
  ⟨[], by kernel_rfl⟩
theorem lifted (os : Os) (started : os.Started) (H : Type) (enc : TypeId × Value → H) (F : Stop.Interp) :
    ReturnsInHanded {} Tryz.checked os 9 .any ((OpenSpec.ofChange Rows.wireWildSpec).preRow enc Tryz.prog Tryz.f9 Rows.wireWildRow.domain false Rows.wireWildRow.laid) (((OpenSpec.ofChange Rows.wireWildSpec).at F).post enc Tryz.prog Tryz.f9 false true false false) := by
  obtain ⟨places, hx⟩ := reads os enc
  refine returnsInHanded_of_row (C := Tryz.checked) (s := OpenSpec.ofChange Rows.wireWildSpec) own started (by kernel_rfl) Tryz.func9
    (witness_row_at (enc := enc) (C := Tryz.checked) false (laidWorld os) zeros rfl (by kernel_rfl) (by kernel_rfl) (by kernel_rfl)
      (OpenSpec.preRow_of_cond 8 hx (by kernel_rfl) (fun k hk => by cases hk) (by kernel_rfl) (laid_met os))) ?_
  intro W base args ds gs before hval hW _ _ _ hL hsh _
  exact contract H enc W base args ds gs before hval hW hL hsh
theorem said : Rows.WireWildSaid :=
  OpenClaim.holds_of_cond 9 Tryz.f9 rfl rfl rfl rfl rfl rfl rfl ⟨rfl, rfl, rfl, rfl, rfl⟩ rfl rfl rfl rfl rfl (by kernel_rfl) Tryz.func9 (by kernel_rfl)
    (of_decide_eq_true (by kernel_rfl)) (by unfold Func.isWrapper; first | (rw [if_pos (by decide +kernel)]; kernel_rfl) | (rw [if_neg (by decide +kernel)]; exact ⟨rfl, rfl⟩))
    (fun os started H enc _ F => by rw [OpenClaim.pre_eq_preRow]; exact lifted os started H enc F)
theorem plain (f : FuncId) (fn : Func) (hf : Tryz.pinned.checked.prog.funcNamed "intarsia/intarsialaw10.WireWild" = some f) (hfn : Tryz.pinned.checked.prog.funcs[f]? = some fn) :
    false = Tryz.pinned.checked.prog.looks [] ∧ ∀ (j : Nat) t, fn.params[j]? = some t → Tryz.pinned.checked.prog.wantsStandIn t = false := by
  obtain rfl : f = 9 := Option.some.inj ((show Tryz.prog.funcNamed "intarsia/intarsialaw10.WireWild" = some 9 by kernel_rfl).symm.trans hf) |>.symm
  obtain rfl : fn = Tryz.f9 := (Option.some.inj (Tryz.func9.symm.trans hfn)).symm
  refine ⟨by kernel_rfl, fun j t ht => ?_⟩
  rw [Tryz.params9] at ht
  have hm := Array.mem_of_getElem? ht
  simp only [List.mem_toArray, List.mem_cons, List.mem_nil_iff, or_false] at hm
  rcases hm with rfl | rfl
  · exact (show Tryz.prog.wantsStandIn 52 = false by kernel_rfl)
  · exact (show Tryz.prog.wantsStandIn 9 = false by kernel_rfl)
theorem card : Rows.WireWildCardSaid :=
  Claim7.holds_tied_plain_at .later [] _ _ _ _ said (fun _ h => by cases h) (by kernel_rfl) (fun _ h => by cases h) wireWild_row_tie rfl ⟨rfl, rfl⟩ (by kernel_rfl) rfl plain (by kernel_rfl)
end Go.Proofs.YtkfoahoplndelaaGreatDoor.lawWireWild
namespace Go.Proofs.YtkfoahoplndelaaGreatDoor
theorem wireWild_holds : Rows.WireWildCardSaid := lawWireWild.card
end Go.Proofs.YtkfoahoplndelaaGreatDoor
