/-
  Plain image of strconv.FormatUint, at base 10 by the library's contract, else by its text.
-/
import Derived.Test.YtpionnihpibglaaGreatDoorIf1
import Derived.Test.YtpionnihpibglaaGreatDoorGi1
namespace Go.Proofs.YtpionnihpibglaaGreatDoor
open Go Go.Pm
set_option linter.unusedSimpArgs false
set_option linter.unusedVariables false
noncomputable def strconv_FmtU (n b : Int) : Option Bytes := bif b == 10 then strconv_FormatUint n b else fu16 n b
end Go.Proofs.YtpionnihpibglaaGreatDoor
