/-
  Plain image of math/bits.TrailingZeros64, by the library's contract.
-/
import Derived.Test.YtpionnihpibglaaGreatDoorGi1
import Derived.Lib.TrailingZeros
namespace Go.Proofs.YtpionnihpibglaaGreatDoor
open Go Go.Pm
set_option linter.unusedSimpArgs false
set_option linter.unusedVariables false
noncomputable def math_bits_TrailingZeros64 (n : Int) : Option Int := chk (0 ≤ n ∧ n < 18446744073709551616) (some ((Lib.ctz 64 n.toNat : Nat) : Int))
end Go.Proofs.YtpionnihpibglaaGreatDoor
