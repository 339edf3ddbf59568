/- Closed facts of the row of ScriptOdd, each alone. -/
import Derived.Test.YtaejhdmkjodefaaGreatDoorRows
import Derived.JoinedOf
import Derived.KernelRfl
set_option linter.unusedSimpArgs false
set_option linter.unusedVariables false
namespace Go.Proofs.YtaejhdmkjodefaaGreatDoor
open Go
theorem scriptOdd_fact1 : Rows.scriptOddRow.wf (OpenSpec.ofChange Rows.scriptOddSpec) = true := by kernel_rfl
theorem scriptOdd_fact2 : laidOutB Tryz.prog = true := by kernel_rfl
theorem scriptOdd_fact3 : mapsRowed Tryz.prog = true := by kernel_rfl
theorem scriptOdd_fact4 : Tryz.f3.params.all (Tryz.prog.readableRec ·) = true := by kernel_rfl
theorem scriptOdd_fact5 : namedTie Tryz.prog Rows.scriptOddRow.named Rows.scriptOddSpec.vars = true := by kernel_rfl
theorem scriptOdd_fact6 : (Rows.scriptOddRow.stops == []) = true := by kernel_rfl
theorem scriptOdd_fact7 : (Tryz.prog.stops == []) = true := by kernel_rfl
theorem scriptOdd_fact8 : (Rows.scriptOddRow.knobs == []) = true := by kernel_rfl
theorem scriptOdd_fact9 : (Tryz.prog.stopKnobs == []) = true := by kernel_rfl
theorem scriptOdd_fact10 : (Rows.scriptOddRow.inPlace == Tryz.prog.inPlace 3) = true := by kernel_rfl
end Go.Proofs.YtaejhdmkjodefaaGreatDoor
