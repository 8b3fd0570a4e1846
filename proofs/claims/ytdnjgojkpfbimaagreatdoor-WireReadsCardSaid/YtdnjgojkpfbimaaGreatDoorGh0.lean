/-
  What the walks of Wire's functions lean on: the strings.Builder at this seat.
-/
import Derived.Test.YtdnjgojkpfbimaaGreatDoorGw2
import Derived.Test.YtdnjgojkpfbimaaGreatDoorGe1
import Derived.Test.YtdnjgojkpfbimaaGreatDoorBd2
namespace Go.Proofs.YtdnjgojkpfbimaaGreatDoor
open Go Go.Pm
set_option linter.unusedSimpArgs false
set_option linter.unusedVariables false
theorem L166 : Lays.n166 Tryz.prog Tryz.lays156_ren := { Tryz.lays156 with }
theorem L169 : Lays.n169 Tryz.prog Tryz.lays156_ren := { Tryz.lays156 with }
theorem XB : Builder.Extra Tryz.prog Tryz.lays156_ren := Tryz.Builder_Extra_156
end Go.Proofs.YtdnjgojkpfbimaaGreatDoor
