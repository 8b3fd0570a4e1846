/-
  Plain images of what the library has: strconv.Itoa.
-/
import Derived.Test.YtkfoahoplndelaaGreatDoorGi1
namespace Go.Proofs.YtkfoahoplndelaaGreatDoor
open Go Go.Pm
noncomputable def strconv_Itoa (n : Int) : Option Bytes := chk (-9223372036854775808 ≤ n ∧ n ≤ 9223372036854775807) (some (Lib.itoa n))
end Go.Proofs.YtkfoahoplndelaaGreatDoor
