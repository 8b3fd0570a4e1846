/-
  UpstreamCaps: for every input the law returns true, and each argument reads afterwards as it read before (the whole statement, no bound on the input); the listed package-level variables start as the program's text lays them.
-/
import Derived.Test.YtommkfooolabhaaGreatDoorCards
import Derived.Test.YtommkfooolabhaaGreatDoorTie
import Derived.Test.YtommkfooolabhaaGreatDoorPm26
import Derived.Test.YtommkfooolabhaaGreatDoorWk12
import Derived.Test.YtommkfooolabhaaGreatDoorPk2
import Derived.WalkKit
import Derived.ProofKit
import Derived.OpenShut
import Derived.Deep.DeepHandedRow
import Derived.Deep.DeepLaidRun
import Derived.Lib.LaidTab
import Derived.Stop.LaidErr
namespace Go.Proofs.YtommkfooolabhaaGreatDoor.lawUpstreamCaps
open Go Go.Pm Go.ChangeShapes Go.WideShapes Go.ChangeAt Go.RowKit
set_option linter.unusedSimpArgs false
set_option maxRecDepth 100000
set_option linter.unusedVariables false
theorem own : ownKnob Tryz.prog.godebug = none := by kernel_rfl
theorem laidOut : laidOutB Tryz.prog = true := by kernel_rfl
theorem bod : bodied Tryz.prog 7 := ⟨_, Tryz.func7, by kernel_rfl, by kernel_rfl⟩
theorem rec3 : Tryz.prog.readableRec 3 = true ∧ 3 < Tryz.prog.types.size := ⟨by kernel_rfl, of_decide_eq_true (by kernel_rfl)⟩
theorem rec9 : Tryz.prog.readableRec 9 = true ∧ 9 < Tryz.prog.types.size := ⟨by kernel_rfl, of_decide_eq_true (by kernel_rfl)⟩
theorem recs : ∀ t, t ∈ Tryz.f7.params.toList → Tryz.prog.readableRec t = true ∧ t < Tryz.prog.types.size := by
  rw [Tryz.params7]
  intro t ht
  simp only [List.mem_cons, List.mem_nil_iff, or_false] at ht
  rcases ht with rfl | rfl
  · exact rec3
  · exact rec9
theorem contract (H : Type) (enc : TypeId × Value → H) (W : World) (base : Nat) (args : Array Value) (ds gs : List (DataW H)) (before : List MemPlace)
    (hval : ∀ (j : Nat) t v, Tryz.f7.params[j]? = some t → args[j]? = some v → Value.okWide Tryz.prog W .any base t v)
    (hW : DataW.Whole enc Tryz.prog Tryz.f7.params.toList Rows.upstreamCapsSpec.vars false W args.toList ds gs before) (hL : laidMetH Tryz.prog Rows.upstreamCapsRow.laid W) (hsh : W.ShapedOpen Tryz.prog) :
    Calls Tryz.prog 7 args W fun e W' => ∃ v, e = .returned v ∧ Rows.upstreamCapsSpec.post enc Tryz.prog Tryz.f7 false true false false W args v W' := by
  have hW' := hW
  obtain ⟨p, q, hA0, hV, rfl, hfz, hnd⟩ := hW
  have hA : DataW.TrodAll enc Tryz.prog W 0 (fun _ => true) true Tryz.f7.params.toList args.toList ds p := hA0
  rw [Tryz.params7] at hA hval
  obtain ⟨v0, vs0, d0, ds0, p0, q0, hargs, rfl, rfl, h0, r0⟩ := trodAll_cons hA
  obtain ⟨v1, vs1, d1, ds1, p1, q1, rfl, rfl, rfl, h1, r1⟩ := trodAll_cons r0
  obtain ⟨rfl, rfl, rfl⟩ := trodAll_nil r1
  obtain rfl : args = #[v0, v1] := by cases args; simp_all
  obtain ⟨rfl, rfl⟩ := trodVars_none hV
  obtain ⟨a0, k0⟩ := Opn.argInt Tryz.underlying3 (hval 0 3 v0 rfl rfl) h0
  obtain ⟨a1, k1⟩ := Opn.argStr Tryz.underlying9 (hval 1 9 v1 rfl rfl) h1
  have htab : Lib.TabIs Tryz.prog W "internal/strconv.uint64pow10" .u64 Lib.pow10Tab := Lib.tabIs_of_head (g := 1) (t := 252) (e := 164) (n := 20) (by kernel_rfl) (by kernel_rfl) Tryz.underlying252 Tryz.underlying164 (by kernel_rfl) (by kernel_rfl) (laidMet.tail (laidMet.tail (hL : laidMet Tryz.prog Rows.upstreamCapsRow.laid W)))
  haveI : LaidE ⟨W, W.heap.size⟩ := laidE_of htab hsh
  refine law_post (E := ⟨W, W.heap.size⟩) (own := false) (avs := [AV.int .i64 a0, AV.str a1]) rfl (Nat.le_refl _) bod (intarsialaw22_UpstreamCaps_ok ⟨W, W.heap.size⟩ a0 a1 true (UpstreamCaps_true a0 a1)) rfl ?_ hW' rfl rfl rfl rfl laidOut recs (by kernel_rfl) Tryz.underlying4
  intro i v c hv hc
  match i, hv, hc with
  | 0, hv, hc => cases hv; cases hc; exact k0
  | 1, hv, hc => cases hv; cases hc; exact k1
noncomputable def flatV : Nat → DataW Unit → List Value
  | _ + 1, .lit (.int k v) => [.int k v]
  | m + 1, .agg ps => ps.flatMap (flatV m)
  | _, _ => []
noncomputable def setT (name : String) (d : DataW Unit) (h : Array Obj) : Array Obj :=
  match Tryz.prog.globalNamed name with
  | some g => h.modify g fun
    | .cells _ t frozen => .cells (flatV 5 d).toArray t frozen
    | o => o
  | none => h
noncomputable def laidWorld (os : Os) : World :=
  { World.holding Tryz.prog os ⟨#[], #[], []⟩ with heap := setT "math/bits.deBruijn32tab" Rows.laid_math_bits_deBruijn32tab (setT "math/bits.deBruijn64tab" Rows.laid_math_bits_deBruijn64tab (setT "internal/strconv.uint64pow10" Rows.laid_internal_strconv_uint64pow10 (setT "unicode/utf8.acceptRanges" Rows.laid_unicode_utf8_acceptRanges (setT "unicode/utf8.first" Rows.laid_unicode_utf8_first (World.holding Tryz.prog os ⟨#[], #[], []⟩).heap)))) }
noncomputable def zeros : Array Value := #[.int .i64 0, .string ⟨#[]⟩]
theorem laid_met (os : Os) : laidMet Tryz.prog Rows.upstreamCapsRow.laid ((laidWorld os).forCall (fun _ _ => 0) ⟨#[], zeros, []⟩).memory :=
  laidMet_of_run3 8 (by kernel_rfl) (by kernel_rfl) (by kernel_rfl)
theorem reads (os : Os) {H : Type} (enc : TypeId × Value → H) : ∃ places, DataW.whole enc Tryz.prog ((laidWorld os).forCall (fun _ _ => 0) ⟨#[], zeros, []⟩).memory Tryz.f7.params.toList Rows.upstreamCapsSpec.vars false zeros.toList 8 = some ([.lit (.int .i64 0), .lit (.string [])], [], places) :=
  ⟨[], by kernel_rfl⟩
theorem lifted (os : Os) (started : os.Started) (H : Type) (enc : TypeId × Value → H) (F : Stop.Interp) :
    ReturnsInHanded {} Tryz.checked os 7 .any ((OpenSpec.ofChange Rows.upstreamCapsSpec).preRow enc Tryz.prog Tryz.f7 Rows.upstreamCapsRow.domain false Rows.upstreamCapsRow.laid) (((OpenSpec.ofChange Rows.upstreamCapsSpec).at F).post enc Tryz.prog Tryz.f7 false true false false) := by
  obtain ⟨places, hx⟩ := reads os enc
  refine returnsInHanded_of_row (C := Tryz.checked) (s := OpenSpec.ofChange Rows.upstreamCapsSpec) own started (by kernel_rfl) Tryz.func7
    (witness_row_at (enc := enc) (C := Tryz.checked) false (laidWorld os) zeros rfl (by kernel_rfl) (by kernel_rfl) (by kernel_rfl)
      (OpenSpec.preRow_of_cond 8 hx (by kernel_rfl) (fun k hk => by cases hk) (by kernel_rfl) (laid_met os))) ?_
  intro W base args ds gs before hval hW _ hcond _ hL hsh _
  exact contract H enc W base args ds gs before hval hW hL hsh
theorem said : Rows.UpstreamCapsSaid :=
  OpenClaim.holds_of_cond 7 Tryz.f7 rfl rfl rfl rfl rfl rfl rfl ⟨rfl, rfl, rfl, rfl, rfl⟩ rfl rfl rfl rfl rfl (by kernel_rfl) Tryz.func7 (by kernel_rfl)
    (of_decide_eq_true (by kernel_rfl)) (by unfold Func.isWrapper; first | (rw [if_pos (by decide +kernel)]; kernel_rfl) | (rw [if_neg (by decide +kernel)]; exact ⟨rfl, rfl⟩))
    (fun os started H enc _ F => by rw [OpenClaim.pre_eq_preRow]; exact lifted os started H enc F)
theorem plain (f : FuncId) (fn : Func) (hf : Tryz.pinned.checked.prog.funcNamed "intarsia/intarsialaw22.UpstreamCaps" = some f) (hfn : Tryz.pinned.checked.prog.funcs[f]? = some fn) :
    true = Tryz.pinned.checked.prog.looks [] ∧ ∀ (j : Nat) t, fn.params[j]? = some t → Tryz.pinned.checked.prog.wantsStandIn t = false := by
  obtain rfl : f = 7 := Option.some.inj ((show Tryz.prog.funcNamed "intarsia/intarsialaw22.UpstreamCaps" = some 7 by kernel_rfl).symm.trans hf) |>.symm
  obtain rfl : fn = Tryz.f7 := (Option.some.inj (Tryz.func7.symm.trans hfn)).symm
  refine ⟨by kernel_rfl, fun j t ht => ?_⟩
  rw [Tryz.params7] at ht
  have hm := Array.mem_of_getElem? ht
  simp only [List.mem_toArray, List.mem_cons, List.mem_nil_iff, or_false] at hm
  rcases hm with rfl | rfl
  · exact (show Tryz.prog.wantsStandIn 3 = false by kernel_rfl)
  · exact (show Tryz.prog.wantsStandIn 9 = false by kernel_rfl)
theorem card : Rows.UpstreamCapsCardSaid :=
  Claim7.holds_tied_plain_at .later [] _ _ _ _ said (fun _ h => by cases h) (by kernel_rfl) (fun _ h => by cases h) upstreamCaps_row_tie rfl ⟨rfl, rfl⟩ (by kernel_rfl) rfl plain (by kernel_rfl)
end Go.Proofs.YtommkfooolabhaaGreatDoor.lawUpstreamCaps
namespace Go.Proofs.YtommkfooolabhaaGreatDoor
theorem upstreamCaps_holds : Rows.UpstreamCapsCardSaid := lawUpstreamCaps.card
end Go.Proofs.YtommkfooolabhaaGreatDoor
