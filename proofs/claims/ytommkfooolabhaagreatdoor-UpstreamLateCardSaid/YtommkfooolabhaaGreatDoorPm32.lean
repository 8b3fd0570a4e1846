/-
  Generic: rows that are lent to functions over plain data.
-/
import Derived.Test.YtommkfooolabhaaGreatDoorPm28
import Derived.Test.YtommkfooolabhaaGreatDoorPm25
namespace Go.Pm
open Go Go.RowKit
set_option linter.unusedVariables false
set_option linter.unusedSimpArgs false
theorem Lend.of {H : List AObj} (ids : List Nat) {args bs : List AV} (hz : FrzAll (maskH ids 0 H) args bs) : Lend H ids args bs := by
  obtain ⟨zl, zr⟩ := hz.at_
  refine ⟨zl.symm, fun E B G w hgd hobj => ?_⟩
  have hO : ∀ (i : Nat) (t : TypeId) (cs : List AV) (tg : List (Nat × Nat)), (maskH ids 0 H)[i]? = some (.cells t cs tg) → RepObj G w i (some (.cells t cs tg)) := fun i t cs tg hi => by
    obtain ⟨h1, h2⟩ := maskH_get2 ids H 0 i t cs tg hi
    rw [← h1]
    exact hobj i (by simpa using h2)
  refine ⟨frzF G (maskH ids 0 H), fun b o hb => ?_, fun i v c c' hc hc' hr => (zr i c c' hc hc').rep' hO v hr⟩
  rcases hb with hb | ⟨id, t, cs, tg, h1, h2, h3⟩
  · exact hgd.fin b o hb
  · obtain ⟨g, i1, i2, _⟩ := (hO id t cs tg h1).resolve_left (by rintro ⟨rfl, _⟩; simp at h3)
    rw [i1] at h2
    injection h2 with h2
    subst h2
    exact (hgd.own _ _ i2).1
end Go.Pm
