/-
  Contract of strconv.Itoa.
-/
import Derived.Test.YtkfoahoplndelaaGreatDoorGi2
import Derived.Test.YtkfoahoplndelaaGreatDoorWk2
import Derived.Test.YtkfoahoplndelaaGreatDoorGw2
import Derived.Test.YtkfoahoplndelaaGreatDoorSh2
import Derived.Lib.ItoaLen
namespace Go.Proofs.YtkfoahoplndelaaGreatDoor
open Go Go.Pm Go.RowKit
set_option linter.unusedVariables false

theorem strconv_Itoa_ok (E : Pm.Env) [LaidE E] (a0 : Int) (r : Bytes) (h : strconv_Itoa a0 = some r) : FnR E Tryz.prog 118 [AV.int .i64 a0] (AV.str r) false := by
  obtain ⟨⟨h0, h1⟩, h⟩ := chk_some h
  replace h := Option.some.inj h
  subst h
  refine .inl ⟨⟨_, Tryz.func118, by kernel_rfl, by kernel_rfl⟩, fun F w vals hgw hl hr => ?_⟩
  obtain ⟨v, rfl, h2⟩ := vals1 hl hr
  cases h2
  refine (Tryz.strconv_Itoa a0 h0 h1 w (tab_E hgw)).mono fun e w' ⟨he, k, os, hw⟩ => ?_
  subst hw
  have hb := Lib.below_grow _ w (Nat.le_refl w.heap.size) k os
  refine ⟨_, F, he, hb, fun _ _ h => h, fun b o h => ⟨Nat.lt_of_lt_of_le (hgw.fin b o h) hb.size, .inl h⟩, .str _ _ ?_, fun h => by cases h⟩
  have := Lib.itoa_length_le a0 h0 h1
  unfold maxLen
  omega
end Go.Proofs.YtkfoahoplndelaaGreatDoor
