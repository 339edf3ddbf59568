/- Closed facts of the row of ScriptOdd, each alone. -/
import Derived.Test.YtaejhdmkjodefaaGreatDoorRows
import Derived.JoinedOf
import Derived.KernelRfl
set_option linter.unusedSimpArgs false
set_option linter.unusedVariables false
namespace Go.Proofs.YtaejhdmkjodefaaGreatDoor
open Go
theorem scriptOdd_fact13 : (Rows.scriptOddRow.named == Tryz.prog.varsNamed 3) = true := by kernel_rfl
theorem scriptOdd_fact14 : (Rows.scriptOddRow.maps == (Tryz.f3.params.toList ++ Rows.scriptOddSpec.plain.varTypes Tryz.prog).any (Tryz.prog.mapsRec ·)) = true := by kernel_rfl
theorem scriptOdd_fact15 : (Rows.scriptOddRow.ifaces == (Tryz.f3.params.toList ++ Rows.scriptOddSpec.plain.varTypes Tryz.prog).any (Tryz.prog.ifacesRec ·)) = true := by kernel_rfl
theorem scriptOdd_fact16 : (Rows.scriptOddRow.mapsOut == Tryz.prog.mapsAmong Tryz.f3.resultTypes.toList) = true := by kernel_rfl
theorem scriptOdd_fact17 : (Rows.scriptOddRow.loops == (Tryz.f3.params.toList ++ Rows.scriptOddSpec.plain.varTypes Tryz.prog).any (Tryz.prog.loopsFrom ·)) = true := by kernel_rfl
theorem scriptOdd_fact18 : (Rows.scriptOddRow.wideKeys == (Tryz.f3.params.toList ++ Rows.scriptOddSpec.plain.varTypes Tryz.prog ++ Tryz.f3.resultTypes.toList).any (Tryz.prog.wideKeysFrom ·)) = true := by kernel_rfl
theorem scriptOdd_fact19 : Rows.scriptOddSpec.vars.all (Tryz.prog.varReadable ·) = true := by kernel_rfl
theorem scriptOdd_fact20 : Tryz.f3.resultTypes.all (fun t => Tryz.prog.readableRec t && decide (t < Tryz.prog.types.size)) = true := by kernel_rfl
theorem scriptOdd_fact21 : (Rows.scriptOddRow.ifacesOut == Tryz.f3.resultTypes.toList.any (Tryz.prog.ifacesRec ·)) = true := by kernel_rfl
theorem scriptOdd_fact22 : (Rows.scriptOddRow.loopsOut == Tryz.f3.resultTypes.toList.any (Tryz.prog.loopsFrom ·)) = true := by kernel_rfl
theorem scriptOdd_fact23 : (Rows.scriptOddRow.plainKeys == Tryz.prog.plainKeys) = true := by kernel_rfl
theorem scriptOdd_fact24 : Rows.scriptOddRow.shortTexts.isNone = true := by kernel_rfl
theorem scriptOdd_fact25 : Tryz.prog.stopsHeard = true := by kernel_rfl
theorem scriptOdd_fact26 : Tryz.prog.mayEnter = true := by kernel_rfl
theorem scriptOdd_fact27 : (Rows.scriptOddRow.lifted == Tryz.prog.liftsFinal) = true := by kernel_rfl
theorem scriptOdd_fact28 : (Tryz.prog.make == some Rows.scriptOddRow.make) = true := by kernel_rfl
theorem scriptOdd_fact29 : (Rows.scriptOddRow.kinds == (if Rows.scriptOddRow.domain.isEmpty then [] else Tryz.f3.params.toList.map fun t => match Tryz.prog.underlying t with | some (.int k) => some k | _ => none)) = true := by kernel_rfl
theorem scriptOdd_fact30 : (Rows.scriptOddRow.pinned == Rows.scriptOddRow.pinnedBy) = true := by kernel_rfl
theorem scriptOdd_fact31 : (Rows.scriptOddRow.veiled == (Tryz.f3.params.toList ++ Rows.scriptOddSpec.plain.varTypes Tryz.prog ++ Tryz.f3.resultTypes.toList).any (Tryz.prog.veiledRec ·)) = true := by kernel_rfl
theorem scriptOdd_fact32 : Rows.scriptOddRow.veiledFits Tryz.prog Tryz.f3.params.toList (Tryz.f3.params.toList ++ Rows.scriptOddSpec.plain.varTypes Tryz.prog ++ Tryz.f3.resultTypes.toList) = true := by kernel_rfl
end Go.Proofs.YtaejhdmkjodefaaGreatDoor
