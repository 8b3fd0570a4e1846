/-
  Plain images of what the machine does itself, and of functions whose contracts the library has.
-/
import Derived.Test.YtbgldnleackgeaaDoorPm25
import Derived.Lib.Join
import Derived.Lib.Bytealg
namespace Go.Proofs.YtbgldnleackgeaaDoor
open Go Go.Pm

def bytealg_IndexByteString (s : Bytes) (c : Int) : Option Int := some (Lib.indexByte s (u8 c))
def bytealg_CountString (s : Bytes) (c : Int) : Option Int := some (Lib.countByte s (u8 c) : Int)
def strings_Join (l : List Bytes) (sep : Bytes) : Option Bytes := chk (l.length ≤ 140737488355328 ∧ (Lib.join l sep).length ≤ 140737488355328) (some (Lib.join l sep))
end Go.Proofs.YtbgldnleackgeaaDoor
