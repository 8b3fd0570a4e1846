/-
  Plain image of strings.Index, by the library's contract.
-/
import Derived.Test.YtdobepgddhbncaaGreatDoorGi1
import Derived.Lib.Index
namespace Go.Proofs.YtdobepgddhbncaaGreatDoor
open Go Go.Pm
set_option linter.unusedSimpArgs false
set_option linter.unusedVariables false
def strings_Index (s t : aA) : Option Int := match t with
  | [c] => some (Lib.indexByte s c)
  | t => chk (s.length < 4294967281) (some (Lib.index s t))
end Go.Proofs.YtdobepgddhbncaaGreatDoor
