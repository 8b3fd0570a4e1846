/-
  Generic: arguments of types that reach themselves: what reads with so much fuel; how large what stands for them may be.
-/
import Derived.Test.YtdobepgddhbncaaGreatDoorPm26
namespace Go.Pm
open Go Go.RowKit Go.ChangeShapes Go.WideShapes
set_option linter.unusedSimpArgs false
set_option linter.unusedVariables false
section
variable {H : Type} {enc : TypeId × Value -> H} {P : Program} {w : World}
end
theorem Wf.strLen {s : aA} (h : Wf (.str s)) : s.length <= maxLen := by cases h with | str _ h => exact h
theorem Wf.listLen {sz : Nat} {xs : List AV} (h : Wf (.list sz xs)) : xs.length <= maxLen := by cases h with | list _ _ h => exact h
theorem Wf.aggMem {cs : List AV} (h : Wf (.agg cs)) {c : AV} (hc : c ∈ cs) : Wf c := by cases h with | agg _ h => exact h c hc
theorem Wf.listAgg {sz : Nat} {xs : List AV} (h : Wf (.list sz xs)) {cs : List AV} (hx : AV.agg cs ∈ xs) : Wf (.agg cs) := by
  cases h with
  | list _ _ _ h' _ =>
    obtain ⟨i, hi⟩ := List.getElem?_of_mem hx
    refine .agg _ fun c hc => ?_
    obtain ⟨j, hj⟩ := List.getElem?_of_mem hc
    exact h' i _ j c hi hj
end Go.Pm
