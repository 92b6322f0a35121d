/- Texts of this claim, one behind the other: Open15. -/
import Derived.Test.YtlmhphejgahfbaaGreatDoorMrowledgernil3
/- Numbers of transactions, opened. -/
set_option linter.unusedVariables false
set_option linter.unusedSimpArgs false
namespace Go.Proofs.YtlmhphejgahfbaaGreatDoor
theorem opens_ints : Opens Tryz.prog (Ty.slice (Ty.int .i64)) 39 := (Opens.int (by kernel_rfl) Tryz.underlying3).slice (by kernel_rfl) Tryz.underlying39
end Go.Proofs.YtlmhphejgahfbaaGreatDoor
