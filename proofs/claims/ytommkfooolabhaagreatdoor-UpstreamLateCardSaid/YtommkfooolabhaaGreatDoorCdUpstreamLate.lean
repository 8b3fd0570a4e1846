/-
  UpstreamLate: for every input the law returns true, and each argument reads afterwards as it read before (the whole statement, no bound on the input); the listed package-level variables start as the program's text lays them.
-/
import Derived.Test.YtommkfooolabhaaGreatDoorCards
import Derived.Test.YtommkfooolabhaaGreatDoorTie
import Derived.Test.YtommkfooolabhaaGreatDoorPm26
import Derived.Test.YtommkfooolabhaaGreatDoorWk12
import Derived.Test.YtommkfooolabhaaGreatDoorPk3
import Derived.WalkKit
import Derived.ProofKit
import Derived.OpenShut
import Derived.Deep.DeepHandedRow
import Derived.Deep.DeepLaidRun
import Derived.Lib.LaidTab
import Derived.Stop.LaidErr
namespace Go.Proofs.YtommkfooolabhaaGreatDoor.lawUpstreamLate
open Go Go.Pm Go.ChangeShapes Go.WideShapes Go.ChangeAt Go.RowKit
set_option linter.unusedSimpArgs false
set_option maxRecDepth 100000
set_option linter.unusedVariables false
theorem opn3 {H : Type} (enc : TypeId × Value → H) (W : World) : Opn enc Tryz.prog W 3 Int (fun n => [.int .i64 n]) := Opn.int Tryz.underlying3
theorem opn9 {H : Type} (enc : TypeId × Value → H) (W : World) : Opn enc Tryz.prog W 9 Bytes (fun s => [.str s]) := Opn.str Tryz.underlying9
theorem opn4 {H : Type} (enc : TypeId × Value → H) (W : World) : Opn enc Tryz.prog W 4 Bool (fun b => [.bool b]) := Opn.bool Tryz.underlying4
theorem opn23 {H : Type} (enc : TypeId × Value → H) (W : World) : Opn enc Tryz.prog W 23 S_Fetch (S_Fetch.cells) :=
  (Opn.struct Tryz.underlying23 (by kernel_rfl) (OpnF.cons (off := 0) (n := 1) (opn3 enc W) rfl (by kernel_rfl) (OpnF.cons (off := 1) (n := 1) (opn9 enc W) rfl (by kernel_rfl) (OpnF.cons (off := 2) (n := 1) (opn9 enc W) rfl (by kernel_rfl) (OpnF.cons (off := 3) (n := 1) (opn9 enc W) rfl (by kernel_rfl) (OpnF.cons (off := 4) (n := 1) (opn4 enc W) rfl (by kernel_rfl) (OpnF.cons (off := 5) (n := 1) (opn3 enc W) rfl (by kernel_rfl) (OpnF.cons (off := 6) (n := 1) (opn4 enc W) rfl (by kernel_rfl) OpnF.nil)))))))).map (fun a => S_Fetch.mk (a.1) (a.2.1) (a.2.2.1) (a.2.2.2.1) (a.2.2.2.2.1) (a.2.2.2.2.2.1) (a.2.2.2.2.2.2.1)) (fun a => rfl)
theorem own : ownKnob Tryz.prog.godebug = none := by kernel_rfl
theorem laidOut : laidOutB Tryz.prog = true := by kernel_rfl
theorem bod : bodied Tryz.prog 8 := ⟨_, Tryz.func8, by kernel_rfl, by kernel_rfl⟩
theorem rec3 : Tryz.prog.readableRec 3 = true ∧ 3 < Tryz.prog.types.size := ⟨by kernel_rfl, of_decide_eq_true (by kernel_rfl)⟩
theorem rec9 : Tryz.prog.readableRec 9 = true ∧ 9 < Tryz.prog.types.size := ⟨by kernel_rfl, of_decide_eq_true (by kernel_rfl)⟩
theorem rec23 : Tryz.prog.readableRec 23 = true ∧ 23 < Tryz.prog.types.size := ⟨by kernel_rfl, of_decide_eq_true (by kernel_rfl)⟩
theorem recs : ∀ t, t ∈ Tryz.f8.params.toList → Tryz.prog.readableRec t = true ∧ t < Tryz.prog.types.size := by
  rw [Tryz.params8]
  intro t ht
  simp only [List.mem_cons, List.mem_nil_iff, or_false] at ht
  rcases ht with rfl | rfl | rfl
  · exact rec23
  · exact rec3
  · exact rec9
theorem contract (H : Type) (enc : TypeId × Value → H) (W : World) (base : Nat) (args : Array Value) (ds gs : List (DataW H)) (before : List MemPlace)
    (hval : ∀ (j : Nat) t v, Tryz.f8.params[j]? = some t → args[j]? = some v → Value.okWide Tryz.prog W .any base t v)
    (hW : DataW.Whole enc Tryz.prog Tryz.f8.params.toList Rows.upstreamLateSpec.vars false W args.toList ds gs before) (hL : laidMetH Tryz.prog Rows.upstreamLateRow.laid W) (hsh : W.ShapedOpen Tryz.prog) :
    Calls Tryz.prog 8 args W fun e W' => ∃ v, e = .returned v ∧ Rows.upstreamLateSpec.post enc Tryz.prog Tryz.f8 false true false false W args v W' := by
  have hW' := hW
  obtain ⟨p, q, hA0, hV, rfl, hfz, hnd⟩ := hW
  have hA : DataW.TrodAll enc Tryz.prog W 0 (fun _ => true) true Tryz.f8.params.toList args.toList ds p := hA0
  rw [Tryz.params8] at hA hval
  obtain ⟨v0, vs0, d0, ds0, p0, q0, hargs, rfl, rfl, h0, r0⟩ := trodAll_cons hA
  obtain ⟨v1, vs1, d1, ds1, p1, q1, rfl, rfl, rfl, h1, r1⟩ := trodAll_cons r0
  obtain ⟨v2, vs2, d2, ds2, p2, q2, rfl, rfl, rfl, h2, r2⟩ := trodAll_cons r1
  obtain ⟨rfl, rfl, rfl⟩ := trodAll_nil r2
  obtain rfl : args = #[v0, v1, v2] := by cases args; simp_all
  obtain ⟨rfl, rfl⟩ := trodVars_none hV
  obtain ⟨a0, k0⟩ := Opn.argS Tryz.underlying23 (hval 0 23 v0 rfl rfl) (opn23 enc W) h0
  obtain ⟨a1, k1⟩ := Opn.argInt Tryz.underlying3 (hval 1 3 v1 rfl rfl) h1
  obtain ⟨a2, k2⟩ := Opn.argStr Tryz.underlying9 (hval 2 9 v2 rfl rfl) h2
  have htab : Lib.TabIs Tryz.prog W "internal/strconv.uint64pow10" .u64 Lib.pow10Tab := Lib.tabIs_of_head (g := 1) (t := 252) (e := 164) (n := 20) (by kernel_rfl) (by kernel_rfl) Tryz.underlying252 Tryz.underlying164 (by kernel_rfl) (by kernel_rfl) (laidMet.tail (laidMet.tail (hL : laidMet Tryz.prog Rows.upstreamLateRow.laid W)))
  haveI : LaidE ⟨W, W.heap.size⟩ := laidE_of htab hsh
  refine law_post (E := ⟨W, W.heap.size⟩) (own := false) (avs := [S_Fetch.av a0, AV.int .i64 a1, AV.str a2]) rfl (Nat.le_refl _) bod (intarsialaw22_UpstreamLate_ok ⟨W, W.heap.size⟩ a0 a1 a2 true (UpstreamLate_true a0 a1 a2)) rfl ?_ hW' rfl rfl rfl rfl laidOut recs (by kernel_rfl) Tryz.underlying4
  intro i v c hv hc
  match i, hv, hc with
  | 0, hv, hc => cases hv; cases hc; exact k0
  | 1, hv, hc => cases hv; cases hc; exact k1
  | 2, hv, hc => cases hv; cases hc; exact k2
noncomputable def flatV : Nat → DataW Unit → List Value
  | _ + 1, .lit (.int k v) => [.int k v]
  | m + 1, .agg ps => ps.flatMap (flatV m)
  | _, _ => []
noncomputable def setT (name : String) (d : DataW Unit) (h : Array Obj) : Array Obj :=
  match Tryz.prog.globalNamed name with
  | some g => h.modify g fun
    | .cells _ t frozen => .cells (flatV 5 d).toArray t frozen
    | o => o
  | none => h
noncomputable def laidWorld (os : Os) : World :=
  { World.holding Tryz.prog os ⟨#[], #[], []⟩ with heap := setT "math/bits.deBruijn32tab" Rows.laid_math_bits_deBruijn32tab (setT "math/bits.deBruijn64tab" Rows.laid_math_bits_deBruijn64tab (setT "internal/strconv.uint64pow10" Rows.laid_internal_strconv_uint64pow10 (setT "unicode/utf8.acceptRanges" Rows.laid_unicode_utf8_acceptRanges (setT "unicode/utf8.first" Rows.laid_unicode_utf8_first (World.holding Tryz.prog os ⟨#[], #[], []⟩).heap)))) }
noncomputable def zeros : Array Value := #[.agg #[.int .i64 0, .string ⟨#[]⟩, .string ⟨#[]⟩, .string ⟨#[]⟩, .bool false, .int .i64 0, .bool false], .int .i64 0, .string ⟨#[]⟩]
theorem laid_met (os : Os) : laidMet Tryz.prog Rows.upstreamLateRow.laid ((laidWorld os).forCall (fun _ _ => 0) ⟨#[], zeros, []⟩).memory :=
  laidMet_of_run3 8 (by kernel_rfl) (by kernel_rfl) (by kernel_rfl)
theorem reads (os : Os) {H : Type} (enc : TypeId × Value → H) : ∃ places, DataW.whole enc Tryz.prog ((laidWorld os).forCall (fun _ _ => 0) ⟨#[], zeros, []⟩).memory Tryz.f8.params.toList Rows.upstreamLateSpec.vars false zeros.toList 8 = some ([.agg [.lit (.int .i64 0), .lit (.string []), .lit (.string []), .lit (.string []), .lit (.bool false), .lit (.int .i64 0), .lit (.bool false)], .lit (.int .i64 0), .lit (.string [])], [], places) :=
  ⟨[], by kernel_rfl⟩
theorem lifted (os : Os) (started : os.Started) (H : Type) (enc : TypeId × Value → H) (F : Stop.Interp) :
    ReturnsInHanded {} Tryz.checked os 8 .any ((OpenSpec.ofChange Rows.upstreamLateSpec).preRow enc Tryz.prog Tryz.f8 Rows.upstreamLateRow.domain false Rows.upstreamLateRow.laid) (((OpenSpec.ofChange Rows.upstreamLateSpec).at F).post enc Tryz.prog Tryz.f8 false true false false) := by
  obtain ⟨places, hx⟩ := reads os enc
  refine returnsInHanded_of_row (C := Tryz.checked) (s := OpenSpec.ofChange Rows.upstreamLateSpec) own started (by kernel_rfl) Tryz.func8
    (witness_row_at (enc := enc) (C := Tryz.checked) false (laidWorld os) zeros rfl (by kernel_rfl) (by kernel_rfl) (by kernel_rfl)
      (OpenSpec.preRow_of_cond 8 hx (by kernel_rfl) (fun k hk => by cases hk) (by kernel_rfl) (laid_met os))) ?_
  intro W base args ds gs before hval hW _ hcond _ hL hsh _
  exact contract H enc W base args ds gs before hval hW hL hsh
theorem said : Rows.UpstreamLateSaid :=
  OpenClaim.holds_of_cond 8 Tryz.f8 rfl rfl rfl rfl rfl rfl rfl ⟨rfl, rfl, rfl, rfl, rfl⟩ rfl rfl rfl rfl rfl (by kernel_rfl) Tryz.func8 (by kernel_rfl)
    (of_decide_eq_true (by kernel_rfl)) (by unfold Func.isWrapper; first | (rw [if_pos (by decide +kernel)]; kernel_rfl) | (rw [if_neg (by decide +kernel)]; exact ⟨rfl, rfl⟩))
    (fun os started H enc _ F => by rw [OpenClaim.pre_eq_preRow]; exact lifted os started H enc F)
theorem plain (f : FuncId) (fn : Func) (hf : Tryz.pinned.checked.prog.funcNamed "intarsia/intarsialaw22.UpstreamLate" = some f) (hfn : Tryz.pinned.checked.prog.funcs[f]? = some fn) :
    true = Tryz.pinned.checked.prog.looks [] ∧ ∀ (j : Nat) t, fn.params[j]? = some t → Tryz.pinned.checked.prog.wantsStandIn t = false := by
  obtain rfl : f = 8 := Option.some.inj ((show Tryz.prog.funcNamed "intarsia/intarsialaw22.UpstreamLate" = some 8 by kernel_rfl).symm.trans hf) |>.symm
  obtain rfl : fn = Tryz.f8 := (Option.some.inj (Tryz.func8.symm.trans hfn)).symm
  refine ⟨by kernel_rfl, fun j t ht => ?_⟩
  rw [Tryz.params8] at ht
  have hm := Array.mem_of_getElem? ht
  simp only [List.mem_toArray, List.mem_cons, List.mem_nil_iff, or_false] at hm
  rcases hm with rfl | rfl | rfl
  · exact (show Tryz.prog.wantsStandIn 23 = false by kernel_rfl)
  · exact (show Tryz.prog.wantsStandIn 3 = false by kernel_rfl)
  · exact (show Tryz.prog.wantsStandIn 9 = false by kernel_rfl)
theorem card : Rows.UpstreamLateCardSaid :=
  Claim7.holds_tied_plain_at .later [] _ _ _ _ said (fun _ h => by cases h) (by kernel_rfl) (fun _ h => by cases h) upstreamLate_row_tie rfl ⟨rfl, rfl⟩ (by kernel_rfl) rfl plain (by kernel_rfl)
end Go.Proofs.YtommkfooolabhaaGreatDoor.lawUpstreamLate
namespace Go.Proofs.YtommkfooolabhaaGreatDoor
theorem upstreamLate_holds : Rows.UpstreamLateCardSaid := lawUpstreamLate.card
end Go.Proofs.YtommkfooolabhaaGreatDoor
