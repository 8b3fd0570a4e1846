/-
  Plain images of what the machine does itself, and of functions whose contracts the library has.
-/
import Derived.Test.YtommkfooolabhaaGreatDoorPm25
import Derived.Lib.Join
import Derived.Lib.Bytealg
import Derived.Lib.Split
import Derived.Lib.ItoaNum
namespace Go.Proofs.YtommkfooolabhaaGreatDoor
open Go Go.Pm
set_option linter.unusedSimpArgs false
set_option linter.unusedVariables false
def bytealg_IndexByteString (s : Bytes) (c : Int) : Option Int := some (Lib.indexByte s (u8 c))
def strings_Join (l : List Bytes) (sep : Bytes) : Option Bytes := chk (l.length ≤ 140737488355328 ∧ (Lib.join l sep).length ≤ 140737488355328) (some (Lib.join l sep))
noncomputable def strconv_FormatUint (n b : Int) : Option Bytes := chk (b = 10 ∧ 0 ≤ n ∧ n < 18446744073709551616) (some (Lib.decDigits n.toNat))
noncomputable def strings_Split (s sep : Bytes) : Option (List Bytes) := chk (1 ≤ sep.length ∧ s.length < 4294967281) (some (Lib.split s sep))
noncomputable def strings_SplitN (s sep : Bytes) (n : Int) : Option (List Bytes) := chk (1 ≤ n ∧ n ≤ 9223372036854775807 ∧ 1 ≤ sep.length ∧ s.length < 4294967281) (some (Lib.splitN s sep n.toNat))
end Go.Proofs.YtommkfooolabhaaGreatDoor
