/-
  What the walks of Wire's functions lean on: the strings.Builder at this seat.
-/
import Derived.Test.YtkfoahoplndelaaGreatDoorGw2
import Derived.Test.YtkfoahoplndelaaGreatDoorGe1
import Derived.Test.YtkfoahoplndelaaGreatDoorBd2
namespace Go.Proofs.YtkfoahoplndelaaGreatDoor
open Go Go.Pm
theorem L166 : Lays.n166 Tryz.prog Tryz.lays156_ren := { Tryz.lays156 with }
theorem L169 : Lays.n169 Tryz.prog Tryz.lays156_ren := { Tryz.lays156 with }
theorem XB : Builder.Extra Tryz.prog Tryz.lays156_ren := Tryz.Builder_Extra_156
end Go.Proofs.YtkfoahoplndelaaGreatDoor
