/-
  What the walks of Write lean on: the strings.Builder's Len; strconv.FormatUint.
-/
import Derived.Test.YtpionnihpibglaaGreatDoorGh1
import Derived.Test.YtpionnihpibglaaGreatDoorBd3
import Derived.Test.YtpionnihpibglaaGreatDoorGi4
import Derived.Test.YtpionnihpibglaaGreatDoorWk20
namespace Go.Proofs.YtpionnihpibglaaGreatDoor
open Go Go.Pm
set_option linter.unusedSimpArgs false
set_option linter.unusedVariables false
theorem strconv_FmtU_ok (E : Pm.Env) [LaidB E] (a0 a1 : Int) (r : Bytes) (h : strconv_FmtU a0 a1 = some r) : FnR E Tryz.prog 80 [AV.int .u64 a0, AV.int .i64 a1] (AV.str r) false := by
 unfold strconv_FmtU at h
 cases hb : (a1 == 10) with
 | true => rw [hb, cond_true] at h; exact strconv_FormatUint_ok E a0 a1 r h
 | false => rw [hb, cond_false] at h; exact fu16_ok E a0 a1 r h
end Go.Proofs.YtpionnihpibglaaGreatDoor
