/-
  What the walks of Wire's functions lean on: the strings.Builder at this seat.
-/
import Derived.Test.YtpionnihpibglaaGreatDoorGw2
import Derived.Test.YtpionnihpibglaaGreatDoorGe1
import Derived.Test.YtpionnihpibglaaGreatDoorBd3
namespace Go.Proofs.YtpionnihpibglaaGreatDoor
open Go Go.Pm
set_option linter.unusedSimpArgs false
set_option linter.unusedVariables false
theorem L166 : Lays.n166 Tryz.prog Tryz.lays156_ren := { Tryz.lays156 with }
theorem L169 : Lays.n169 Tryz.prog Tryz.lays156_ren := { Tryz.lays156 with }
theorem XB : Builder.Extra Tryz.prog Tryz.lays156_ren := Tryz.Builder_Extra_156
end Go.Proofs.YtpionnihpibglaaGreatDoor
