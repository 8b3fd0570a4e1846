/-
  StartTold: for every input the law returns true, and each argument reads afterwards as it read before (the whole statement, no bound on the input); the listed package-level variables start as the program's text lays them.
-/
import Derived.Test.YtbgldnleackgeaaDoorCards
import Derived.Test.YtbgldnleackgeaaDoorTie
import Derived.Test.YtbgldnleackgeaaDoorPm26
import Derived.Test.YtbgldnleackgeaaDoorWk3
import Derived.Test.YtbgldnleackgeaaDoorPl10
import Derived.WalkKit
import Derived.ProofKit
import Derived.OpenShut
import Derived.Deep.DeepHandedRow
import Derived.Deep.DeepLaidRun
import Derived.Lib.LaidTab
import Derived.Stop.LaidErr
namespace Go.Proofs.YtbgldnleackgeaaDoor.lawStartTold
open Go Go.Pm Go.ChangeShapes Go.WideShapes Go.ChangeAt Go.RowKit
set_option maxRecDepth 100000
set_option linter.unusedVariables false

theorem opn9 {H : Type} (enc : TypeId × Value → H) (W : World) : Opn enc Tryd.prog W 9 Bytes (fun s => [.str s]) := Opn.str Tryd.underlying9
theorem opn3 {H : Type} (enc : TypeId × Value → H) (W : World) : Opn enc Tryd.prog W 3 Int (fun n => [.int .i64 n]) := Opn.int Tryd.underlying3

theorem own : ownKnob Tryd.prog.godebug = none := by kernel_rfl
theorem laidOut : laidOutB Tryd.prog = true := by kernel_rfl
theorem bod : bodied Tryd.prog 9 := ⟨_, Tryd.func9, by kernel_rfl, by kernel_rfl⟩
theorem rec3 : Tryd.prog.readableRec 3 = true ∧ 3 < Tryd.prog.types.size := ⟨by kernel_rfl, of_decide_eq_true (by kernel_rfl)⟩
theorem rec9 : Tryd.prog.readableRec 9 = true ∧ 9 < Tryd.prog.types.size := ⟨by kernel_rfl, of_decide_eq_true (by kernel_rfl)⟩
theorem recs : ∀ t, t ∈ Tryd.f9.params.toList → Tryd.prog.readableRec t = true ∧ t < Tryd.prog.types.size := by
  rw [Tryd.params9]
  intro t ht
  simp only [List.mem_cons, List.mem_nil_iff, or_false] at ht
  rcases ht with rfl | rfl
  · exact rec9
  · exact rec3

/-- WHAT THE LAW DOES, FOR EVERY ARGUMENT AND EVERY WORLD. -/
theorem contract (H : Type) (enc : TypeId × Value → H) (W : World) (base : Nat) (args : Array Value) (ds gs : List (DataW H)) (before : List MemPlace)
    (hval : ∀ (j : Nat) t v, Tryd.f9.params[j]? = some t → args[j]? = some v → Value.okWide Tryd.prog W .any base t v)
    (hW : DataW.Whole enc Tryd.prog Tryd.f9.params.toList Rows.startToldSpec.vars false W args.toList ds gs before) (hL : laidMetH Tryd.prog Rows.startToldRow.laid W) (hsh : W.ShapedOpen Tryd.prog) :
    Calls Tryd.prog 9 args W fun e W' => ∃ v, e = .returned v ∧ Rows.startToldSpec.post enc Tryd.prog Tryd.f9 false true false false W args v W' := by
  have hW' := hW
  obtain ⟨p, q, hA0, hV, rfl, hfz, hnd⟩ := hW
  have hA : DataW.TrodAll enc Tryd.prog W 0 (fun _ => true) true Tryd.f9.params.toList args.toList ds p := hA0
  rw [Tryd.params9] at hA hval
  obtain ⟨v0, vs0, d0, ds0, p0, q0, hargs, rfl, rfl, h0, r0⟩ := trodAll_cons hA
  obtain ⟨v1, vs1, d1, ds1, p1, q1, rfl, rfl, rfl, h1, r1⟩ := trodAll_cons r0
  obtain ⟨rfl, rfl, rfl⟩ := trodAll_nil r1
  obtain rfl : args = #[v0, v1] := by cases args; simp_all
  obtain ⟨rfl, rfl⟩ := trodVars_none hV
  obtain ⟨a0, k0⟩ := Opn.argStr Tryd.underlying9 (hval 0 9 v0 rfl rfl) h0
  obtain ⟨a1, k1⟩ := Opn.argInt Tryd.underlying3 (hval 1 3 v1 rfl rfl) h1
  have htab : Lib.TabIs Tryd.prog W "internal/strconv.uint64pow10" .u64 Lib.pow10Tab := Lib.tabIs_of_head (g := 0) (t := 134) (e := 66) (n := 20) (by kernel_rfl) (by kernel_rfl) Tryd.underlying134 Tryd.underlying66 (by kernel_rfl) (by kernel_rfl) (laidMet.tail (laidMet.tail (hL : laidMet Tryd.prog Rows.startToldRow.laid W)))
  haveI : LaidE ⟨W, W.heap.size⟩ := laidE_of htab hsh
  refine law_post (E := ⟨W, W.heap.size⟩) (own := false) (avs := [AV.str a0, AV.int .i64 a1]) rfl (Nat.le_refl _) bod (intarsialaw06_StartTold_ok ⟨W, W.heap.size⟩ a0 a1 true (StartTold_true a0 a1)) rfl ?_ hW' rfl rfl rfl rfl laidOut recs (by kernel_rfl) Tryd.underlying4
  intro i v c hv hc
  match i, hv, hc with
  | 0, hv, hc => cases hv; cases hc; exact k0
  | 1, hv, hc => cases hv; cases hc; exact k1

/-- A table's cells. -/
noncomputable def flatV : Nat → DataW Unit → List Value
  | _ + 1, .lit (.int k v) => [.int k v]
  | m + 1, .agg ps => ps.flatMap (flatV m)
  | _, _ => []
noncomputable def setT (name : String) (d : DataW Unit) (h : Array Obj) : Array Obj :=
  match Tryd.prog.globalNamed name with
  | some g => h.modify g fun
    | .cells _ t frozen => .cells (flatV 5 d).toArray t frozen
    | o => o
  | none => h
/-- A world for the witness: the settled one, the listed tables holding what their initialisers lay. -/
noncomputable def laidWorld (os : Os) : World :=
  { World.holding Tryd.prog os ⟨#[], #[], []⟩ with heap := setT "math/bits.deBruijn32tab" Rows.laid_math_bits_deBruijn32tab (setT "math/bits.deBruijn64tab" Rows.laid_math_bits_deBruijn64tab (setT "internal/strconv.uint64pow10" Rows.laid_internal_strconv_uint64pow10 (setT "unicode/utf8.acceptRanges" Rows.laid_unicode_utf8_acceptRanges (setT "unicode/utf8.first" Rows.laid_unicode_utf8_first (World.holding Tryd.prog os ⟨#[], #[], []⟩).heap)))) }
noncomputable def zeros : Array Value := #[.string ⟨#[]⟩, .int .i64 0]
theorem laid_met (os : Os) : laidMet Tryd.prog Rows.startToldRow.laid ((laidWorld os).forCall (fun _ _ => 0) ⟨#[], zeros, []⟩).memory :=
  laidMet_of_run3 8 (by kernel_rfl) (by kernel_rfl) (by kernel_rfl)
theorem reads (os : Os) {H : Type} (enc : TypeId × Value → H) : ∃ places, DataW.whole enc Tryd.prog ((laidWorld os).forCall (fun _ _ => 0) ⟨#[], zeros, []⟩).memory Tryd.f9.params.toList Rows.startToldSpec.vars false zeros.toList 8 = some ([.lit (.string []), .lit (.int .i64 0)], [], places) :=
  ⟨[], by kernel_rfl⟩

theorem lifted (os : Os) (started : os.Started) (H : Type) (enc : TypeId × Value → H) (F : Stop.Interp) :
    ReturnsInHanded {} Tryd.checked os 9 .any ((OpenSpec.ofChange Rows.startToldSpec).preRow enc Tryd.prog Tryd.f9 Rows.startToldRow.domain false Rows.startToldRow.laid) (((OpenSpec.ofChange Rows.startToldSpec).at F).post enc Tryd.prog Tryd.f9 false true false false) := by
  obtain ⟨places, hx⟩ := reads os enc
  refine returnsInHanded_of_row (C := Tryd.checked) (s := OpenSpec.ofChange Rows.startToldSpec) own started (by kernel_rfl) Tryd.func9
    (witness_row_at (enc := enc) (C := Tryd.checked) false (laidWorld os) zeros rfl (by kernel_rfl) (by kernel_rfl) (by kernel_rfl)
      (OpenSpec.preRow_of_cond 8 hx (by kernel_rfl) (fun k hk => by cases hk) (by kernel_rfl) (laid_met os))) ?_
  intro W base args ds gs before hval hW _ _ _ hL hsh _
  exact contract H enc W base args ds gs before hval hW hL hsh

theorem said : Rows.StartToldSaid :=
  OpenClaim.holds_of_cond 9 Tryd.f9 rfl rfl rfl rfl rfl rfl rfl ⟨rfl, rfl, rfl, rfl, rfl⟩ rfl rfl rfl rfl rfl (by kernel_rfl) Tryd.func9 (by kernel_rfl)
    (of_decide_eq_true (by kernel_rfl)) (by unfold Func.isWrapper; first | (rw [if_pos (by decide +kernel)]; kernel_rfl) | (rw [if_neg (by decide +kernel)]; exact ⟨rfl, rfl⟩))
    (fun os started H enc _ F => by rw [OpenClaim.pre_eq_preRow]; exact lifted os started H enc F)

/-- No parameter wants a stand-in; the program's own looks are off: what the card asks. -/
theorem plain (f : FuncId) (fn : Func) (hf : Tryd.pinned.checked.prog.funcNamed "intarsia/intarsialaw06.StartTold" = some f) (hfn : Tryd.pinned.checked.prog.funcs[f]? = some fn) :
    false = Tryd.pinned.checked.prog.looks [] ∧ ∀ (j : Nat) t, fn.params[j]? = some t → Tryd.pinned.checked.prog.wantsStandIn t = false := by
  obtain rfl : f = 9 := Option.some.inj ((show Tryd.prog.funcNamed "intarsia/intarsialaw06.StartTold" = some 9 by kernel_rfl).symm.trans hf) |>.symm
  obtain rfl : fn = Tryd.f9 := (Option.some.inj (Tryd.func9.symm.trans hfn)).symm
  refine ⟨by kernel_rfl, fun j t ht => ?_⟩
  rw [Tryd.params9] at ht
  have hm := Array.mem_of_getElem? ht
  simp only [List.mem_toArray, List.mem_cons, List.mem_nil_iff, or_false] at hm
  rcases hm with rfl | rfl
  · exact (show Tryd.prog.wantsStandIn 9 = false by kernel_rfl)
  · exact (show Tryd.prog.wantsStandIn 3 = false by kernel_rfl)

/-- THE CARD. -/
theorem card : Rows.StartToldCardSaid :=
  Claim7.holds_tied_plain_at .later [] _ _ _ _ said (fun _ h => by cases h) (by kernel_rfl) (fun _ h => by cases h) startTold_row_tie rfl ⟨rfl, rfl⟩ (by kernel_rfl) rfl plain (by kernel_rfl)
end Go.Proofs.YtbgldnleackgeaaDoor.lawStartTold
namespace Go.Proofs.YtbgldnleackgeaaDoor
theorem startTold_holds : Rows.StartToldCardSaid := lawStartTold.card
end Go.Proofs.YtbgldnleackgeaaDoor
