/- Closed facts of the row of ScriptOdd, each alone. -/
import Derived.Test.YtaejhdmkjodefaaGreatDoorRows
import Derived.JoinedOf
import Derived.KernelRfl
set_option linter.unusedSimpArgs false
set_option linter.unusedVariables false
namespace Go.Proofs.YtaejhdmkjodefaaGreatDoor
open Go
theorem scriptOdd_fact11 : (Rows.scriptOddRow.unfollowed == Tryz.prog.unfollowed 3) = true := by kernel_rfl
theorem scriptOdd_fact12 : (Rows.scriptOddRow.recurses == Tryz.prog.recurses 3) = true := by kernel_rfl
end Go.Proofs.YtaejhdmkjodefaaGreatDoor
