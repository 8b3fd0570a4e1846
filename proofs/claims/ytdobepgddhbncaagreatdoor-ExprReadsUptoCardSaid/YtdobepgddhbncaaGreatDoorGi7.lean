/-
  Plain images of strings.Compare and stringslite.Index, by the library's contracts.
-/
import Derived.Test.YtdobepgddhbncaaGreatDoorGi6
import Derived.Lib.Bytealg
namespace Go.Proofs.YtdobepgddhbncaaGreatDoor
open Go Go.Pm
set_option linter.unusedSimpArgs false
set_option linter.unusedVariables false
def strings_Compare (s t : aA) : Option Int := some (Lib.compareBytes s t)
def gT (s t : aA) : Option Int := strings_Index s t
end Go.Proofs.YtdobepgddhbncaaGreatDoor
