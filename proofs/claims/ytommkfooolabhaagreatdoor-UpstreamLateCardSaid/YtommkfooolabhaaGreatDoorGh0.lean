/-
  What the walks of Wire's functions lean on: the strings.Builder at this seat.
-/
import Derived.Test.YtommkfooolabhaaGreatDoorGw2
import Derived.Test.YtommkfooolabhaaGreatDoorGe1
import Derived.Test.YtommkfooolabhaaGreatDoorBd2
namespace Go.Proofs.YtommkfooolabhaaGreatDoor
open Go Go.Pm
set_option linter.unusedSimpArgs false
set_option linter.unusedVariables false
theorem L166 : Lays.n166 Tryz.prog Tryz.lays156_ren := { Tryz.lays156 with }
theorem L169 : Lays.n169 Tryz.prog Tryz.lays156_ren := { Tryz.lays156 with }
theorem XB : Builder.Extra Tryz.prog Tryz.lays156_ren := Tryz.Builder_Extra_156
end Go.Proofs.YtommkfooolabhaaGreatDoor
