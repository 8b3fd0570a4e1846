/-
  Plain images of what the machine does itself, and of functions whose contracts the library has.
-/
import Derived.Test.YtdobepgddhbncaaGreatDoorPm25
import Derived.Lib.Join
import Derived.Lib.Bytealg
import Derived.Lib.Split
import Derived.Lib.ItoaNum
namespace Go.Proofs.YtdobepgddhbncaaGreatDoor
open Go Go.Pm
set_option linter.unusedSimpArgs false
set_option linter.unusedVariables false
def i8 (s : aA) (c : Int) : Option Int := some (Lib.indexByte s (u8 c))
def strings_Join (l : List aA) (sep : aA) : Option aA := chk (l.length <= 140737488355328 /\ (Lib.join l sep).length <= 140737488355328) (some (Lib.join l sep))
noncomputable def jV (n b : Int) : Option aA := chk (b = 10 /\ 0 <= n /\ n < 18446744073709551616) (some (Lib.decDigits n.toNat))
noncomputable def strings_Split (s sep : aA) : Option (List aA) := chk (1 <= sep.length /\ s.length < 4294967281) (some (Lib.split s sep))
end Go.Proofs.YtdobepgddhbncaaGreatDoor
