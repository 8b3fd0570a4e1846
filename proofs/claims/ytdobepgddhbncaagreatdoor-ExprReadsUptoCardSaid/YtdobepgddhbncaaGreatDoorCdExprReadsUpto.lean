/-
  ExprReads: for every input the law returns true, and each argument reads afterwards as it read before (the whole statement, no bound on the input); the listed package-level variables start as the program's text lays them.
-/
import Derived.Test.YtdobepgddhbncaaGreatDoorCards
import Derived.Test.YtdobepgddhbncaaGreatDoorTie
import Derived.Test.YtdobepgddhbncaaGreatDoorPm26
import Derived.Test.YtdobepgddhbncaaGreatDoorPm30
import Derived.Test.YtdobepgddhbncaaGreatDoorWk4
import Derived.Test.YtdobepgddhbncaaGreatDoorPe30
import Derived.WalkKit
import Derived.ProofKit
import Derived.OpenShut
import Derived.Deep.DeepHandedRow
import Derived.Deep.DeepLaidRun
import Derived.Lib.LaidTab
import Derived.Stop.LaidErr
namespace Go.Proofs.YtdobepgddhbncaaGreatDoor.lawExprReadsUpto
open Go Go.Pm Go.ChangeShapes Go.WideShapes Go.ChangeAt Go.RowKit
set_option linter.unusedSimpArgs false
set_option maxRecDepth 100000
set_option linter.unusedVariables false
theorem aDZ {H : Type} : ∀ l : List (DataW H), (l.map Rows.uptoBulk).sum = Rows.uptoBulkAll l
  | [] => rfl
  | d :: l => by rw [List.map_cons, List.sum_cons, aDZ l]; rfl
theorem aID {H : Type} : Bulk (Rows.uptoBulk (H := H)) :=
  ⟨fun s => Nat.le_succ _, fun e r => by rw [aDZ]; show _ <= Rows.uptoBulkAll e + Rows.uptoBulkAll r + 1; omega, fun l => by rw [aDZ]; exact Nat.le_succ _⟩
theorem opn2 {H : Type} (enc : TypeId × Value -> H) (W : World) : Opn enc Tryz.prog W 2 Int (fun n => [.int .i64 n]) := Opn.int Tryz.underlying2
theorem opn3 {H : Type} (enc : TypeId × Value -> H) (W : World) : Opn enc Tryz.prog W 3 Int (fun n => [.int .i64 n]) := Opn.int Tryz.underlying3
theorem aJD {H : Type} (enc : TypeId × Value -> H) (W : World) : ∀ N, OpnB enc Tryz.prog W Rows.uptoBulk N 26 aB (aB.cells) tl
  | 0 => OpnB.zero Tryz.underlying26
  | N + 1 => (OpnB.struct aID Tryz.underlying26 (by kernel_rfl) (xN.cons (off := 0) (n := 1) (OpnB.of (opn3 enc W)) rfl (by kernel_rfl) (xN.cons (off := 1) (n := 1) (OpnB.of (opn2 enc W)) rfl (by kernel_rfl) (xN.cons (off := 2) (n := 1) (OpnB.str aID Tryz.underlying9) rfl (by kernel_rfl) (xN.cons (off := 3) (n := 1) (OpnB.str aID Tryz.underlying9) rfl (by kernel_rfl) (xN.cons (off := 4) (n := 1) (OpnB.slice aID Tryz.underlying24 5 (by kernel_rfl) (Nat.le_of_ble_eq_true rfl) (fun a => by cases a; rfl) ((aJD enc W N).map id (fun a => congrArg AV.cells (aB.av_eq a)) (fun a => Nat.le_refl _))) rfl (by kernel_rfl) xN.nil)))))).map (fun a => aB.mk (a.1) (a.2.1) (a.2.2.1) (a.2.2.2.1) (a.2.2.2.2.1)) (fun a => rfl) (fun a => tl_le a)
theorem own : ownKnob Tryz.prog.godebug = none := by kernel_rfl
theorem aJZ : laidOutB Tryz.prog = true := by kernel_rfl
theorem bod : bodied Tryz.prog 8 := ⟨_, Tryz.func8, by kernel_rfl, by kernel_rfl⟩
theorem rec9 : Tryz.prog.readableRec 9 = true /\ 9 < Tryz.prog.types.size := ⟨by kernel_rfl, of_decide_eq_true (by kernel_rfl)⟩
theorem rec26 : Tryz.prog.readableRec 26 = true /\ 26 < Tryz.prog.types.size := ⟨by kernel_rfl, of_decide_eq_true (by kernel_rfl)⟩
theorem recs : ∀ t, t ∈ Tryz.f8.params.toList -> Tryz.prog.readableRec t = true /\ t < Tryz.prog.types.size := by
  rw [Tryz.params8]
  intro t ht
  simp only [List.mem_cons, List.mem_nil_iff, or_false] at ht
  rcases ht with rfl | rfl
  · exact rec26
  · exact rec9
theorem contract (H : Type) (enc : TypeId × Value -> H) (W : World) (base : Nat) (args : Array Value) (ds gs : List (DataW H)) (before : List MemPlace)
    (hval : ∀ (j : Nat) t v, Tryz.f8.params[j]? = some t -> args[j]? = some v -> Value.okWide Tryz.prog W .any base t v)
    (hW : DataW.Whole enc Tryz.prog Tryz.f8.params.toList Rows.exprReadsSpec.vars false W args.toList ds gs before) (hk : Rows.uptoSmall H (ds ++ gs) = true) (hL : laidMetH Tryz.prog Rows.exprReadsUptoRow.laid W) (hsh : W.ShapedOpen Tryz.prog) :
    Calls Tryz.prog 8 args W fun e W' => ∃ v, e = .returned v /\ Rows.exprReadsSpec.post enc Tryz.prog Tryz.f8 false true false false W args v W' := by
  have hW' := hW
  obtain ⟨p, q, hA0, hV, rfl, hfz, hnd⟩ := hW
  have hA : DataW.TrodAll enc Tryz.prog W 0 (fun _ => true) true Tryz.f8.params.toList args.toList ds p := hA0
  rw [Tryz.params8] at hA hval
  obtain ⟨v0, vs0, d0, ds0, p0, q0, hargs, rfl, rfl, h0, r0⟩ := trodAll_cons hA
  obtain ⟨v1, vs1, d1, ds1, p1, q1, rfl, rfl, rfl, h1, r1⟩ := trodAll_cons r0
  obtain ⟨rfl, rfl, rfl⟩ := trodAll_nil r1
  obtain rfl : args = #[v0, v1] := by cases args; simp_all
  obtain ⟨rfl, rfl⟩ := trodVars_none hV
  obtain ⟨a0, k0, b0⟩ := OpnB.argS Tryz.underlying26 (hval 0 26 v0 rfl rfl) (aJD enc W) h0
  obtain ⟨a1, k1⟩ := Opn.argStr Tryz.underlying9 (hval 1 9 v1 rfl rfl) h1
  have hb := of_decide_eq_true hk
  simp only [List.append_nil, Rows.uptoBulkAll] at hb
  have htab : Lib.TabIs Tryz.prog W "internal/strconv.uint64pow10" .u64 Lib.pow10Tab := Lib.tabIs_of_head (g := 3) (t := 159) (e := 75) (n := 20) (by kernel_rfl) (by kernel_rfl) Tryz.underlying159 Tryz.underlying75 (by kernel_rfl) (by kernel_rfl) (laidMet.tail (laidMet.tail (hL : laidMet Tryz.prog Rows.exprReadsUptoRow.laid W)))
  haveI : aI ⟨W, W.heap.size⟩ := aIG htab hsh
  refine aJp (E := ⟨W, W.heap.size⟩) (own := false) (avs := [aB.av a0, AV.str a1]) rfl (Nat.le_refl _) bod (kY ⟨W, W.heap.size⟩ a0 a1 true (aAF a0 a1 (kok_of k0.wf) (by omega))) rfl ?_ hW' rfl rfl rfl rfl aJZ recs (by kernel_rfl) Tryz.underlying4
  intro i v c hv hc
  match i, hv, hc with
  | 0, hv, hc => cases hv; cases hc; exact k0
  | 1, hv, hc => cases hv; cases hc; exact k1
noncomputable def flatV : Nat -> DataW Unit -> List Value
  | _ + 1, .lit (.int k v) => [.int k v]
  | m + 1, .agg ps => ps.flatMap (flatV m)
  | _, _ => []
noncomputable def setT (name : String) (d : DataW Unit) (h : Array Obj) : Array Obj :=
  match Tryz.prog.globalNamed name with
  | some g => h.modify g fun
    | .cells _ t frozen => .cells (flatV 5 d).toArray t frozen
    | o => o
  | none => h
noncomputable def yI (os : Os) : World :=
  { World.holding Tryz.prog os ⟨#[], #[], []⟩ with heap := setT "math/bits.deBruijn32tab" Rows.laid_math_bits_deBruijn32tab (setT "math/bits.deBruijn64tab" Rows.laid_math_bits_deBruijn64tab (setT "internal/strconv.uint64pow10" Rows.laid_internal_strconv_uint64pow10 (setT "unicode/utf8.acceptRanges" Rows.laid_unicode_utf8_acceptRanges (setT "unicode/utf8.first" Rows.laid_unicode_utf8_first (World.holding Tryz.prog os ⟨#[], #[], []⟩).heap)))) }
noncomputable def zeros : Array Value := #[.agg #[.int .i64 0, .int .i64 0, .string ⟨#[]⟩, .string ⟨#[]⟩, .slice none 0 0], .string ⟨#[]⟩]
theorem aIE (os : Os) : laidMet Tryz.prog Rows.exprReadsUptoRow.laid ((yI os).forCall (fun _ _ => 0) ⟨#[], zeros, []⟩).memory :=
  laidMet_of_run3 8 (by kernel_rfl) (by kernel_rfl) (by kernel_rfl)
theorem reads (os : Os) {H : Type} (enc : TypeId × Value -> H) : ∃ places, DataW.whole enc Tryz.prog ((yI os).forCall (fun _ _ => 0) ⟨#[], zeros, []⟩).memory Tryz.f8.params.toList Rows.exprReadsSpec.vars false zeros.toList 8 = some ([.agg [.lit (.int .i64 0), .lit (.int .i64 0), .lit (.string []), .lit (.string []), .nil], .lit (.string [])], [], places) :=
  ⟨[], by kernel_rfl⟩
theorem lifted (os : Os) (started : os.Started) (H : Type) (enc : TypeId × Value -> H) (F : Stop.Interp) :
    ReturnsInHanded {} Tryz.checked os 8 .any ((Rows.OpenSpec.upto Rows.exprReadsSpec).preRow enc Tryz.prog Tryz.f8 Rows.exprReadsUptoRow.domain false Rows.exprReadsUptoRow.laid) (((Rows.OpenSpec.upto Rows.exprReadsSpec).at F).post enc Tryz.prog Tryz.f8 false true false false) := by
  obtain ⟨places, hx⟩ := reads os enc
  refine returnsInHanded_of_row (C := Tryz.checked) (s := Rows.OpenSpec.upto Rows.exprReadsSpec) own started (by kernel_rfl) Tryz.func8
    (witness_row_at (enc := enc) (C := Tryz.checked) false (yI os) zeros rfl (by kernel_rfl) (by kernel_rfl) (by kernel_rfl)
      (OpenSpec.preRow_of_cond 8 hx (by kernel_rfl) (fun k hk => by cases hk; kernel_rfl) (by kernel_rfl) (aIE os))) ?_
  intro W base args ds gs before hval hW _ hcond _ hL hsh _
  exact contract H enc W base args ds gs before hval hW (hcond _ rfl) hL hsh
theorem said : Rows.ExprReadsUptoSaid :=
  OpenClaim.holds_of_cond 8 Tryz.f8 rfl rfl rfl rfl rfl rfl rfl ⟨rfl, rfl, rfl, rfl, rfl⟩ rfl rfl rfl rfl rfl (by kernel_rfl) Tryz.func8 (by kernel_rfl)
    (of_decide_eq_true (by kernel_rfl)) (by unfold Func.isWrapper; first | (rw [if_pos (by decide +kernel)]; kernel_rfl) | (rw [if_neg (by decide +kernel)]; exact ⟨rfl, rfl⟩))
    (fun os started H enc _ F => by rw [OpenClaim.pre_eq_preRow]; exact lifted os started H enc F)
theorem plain (f : FuncId) (fn : Func) (hf : Tryz.pinned.checked.prog.funcNamed "intarsia/intarsialaw18.ExprReads" = some f) (hfn : Tryz.pinned.checked.prog.funcs[f]? = some fn) :
    false = Tryz.pinned.checked.prog.looks [] /\ ∀ (j : Nat) t, fn.params[j]? = some t -> Tryz.pinned.checked.prog.wantsStandIn t = false := by
  obtain rfl : f = 8 := Option.some.inj ((show Tryz.prog.funcNamed "intarsia/intarsialaw18.ExprReads" = some 8 by kernel_rfl).symm.trans hf) |>.symm
  obtain rfl : fn = Tryz.f8 := (Option.some.inj (Tryz.func8.symm.trans hfn)).symm
  refine ⟨by kernel_rfl, fun j t ht => ?_⟩
  rw [Tryz.params8] at ht
  have hm := Array.mem_of_getElem? ht
  simp only [List.mem_toArray, List.mem_cons, List.mem_nil_iff, or_false] at hm
  rcases hm with rfl | rfl
  · exact (show Tryz.prog.wantsStandIn 26 = false by kernel_rfl)
  · exact (show Tryz.prog.wantsStandIn 9 = false by kernel_rfl)
theorem card : Rows.ExprReadsUptoCardSaid :=
  Claim7.holds_tied_plain_at .later [] _ _ _ _ said (fun _ h => by cases h) (by kernel_rfl) (fun _ h => by cases h) exprReadsUpto_row_tie rfl ⟨rfl, rfl⟩ (by kernel_rfl) rfl plain (by kernel_rfl)
end Go.Proofs.YtdobepgddhbncaaGreatDoor.lawExprReadsUpto
namespace Go.Proofs.YtdobepgddhbncaaGreatDoor
theorem exprReadsUpto_holds : Rows.ExprReadsUptoCardSaid := lawExprReadsUpto.card
end Go.Proofs.YtdobepgddhbncaaGreatDoor
