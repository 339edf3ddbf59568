/- The closed facts of the row of ScriptOdd, together; those of its card. -/
import Derived.Test.YtaejhdmkjodefaaGreatDoorJFScriptOddA
import Derived.Test.YtaejhdmkjodefaaGreatDoorJFScriptOddB
import Derived.Test.YtaejhdmkjodefaaGreatDoorJFScriptOddC
import Derived.Test.YtaejhdmkjodefaaGreatDoorCards
import Derived.SevenTiedAt
set_option linter.unusedSimpArgs false
set_option linter.unusedVariables false
namespace Go.Proofs.YtaejhdmkjodefaaGreatDoor
open Go
theorem band {a b : Bool} (ha : a = true) (hb : b = true) : (a && b) = true := by rw [ha, hb]; rfl
set_option maxRecDepth 100000 in
theorem scriptOdd_closed : joinedFacts Tryz.prog 3 Tryz.f3 Rows.scriptOddSpec Rows.scriptOddRow = true := by
  unfold joinedFacts
  exact (band (band (band (band (band (band (band (band (band (band (band (band (band (band (band (band (band (band (band (band (band (band (band (band (band (band (band (band (band (band (band scriptOdd_fact1 scriptOdd_fact2) scriptOdd_fact3) scriptOdd_fact4) scriptOdd_fact5) scriptOdd_fact6) scriptOdd_fact7) scriptOdd_fact8) scriptOdd_fact9) scriptOdd_fact10) scriptOdd_fact11) scriptOdd_fact12) scriptOdd_fact13) scriptOdd_fact14) scriptOdd_fact15) scriptOdd_fact16) scriptOdd_fact17) scriptOdd_fact18) scriptOdd_fact19) scriptOdd_fact20) scriptOdd_fact21) scriptOdd_fact22) scriptOdd_fact23) scriptOdd_fact24) scriptOdd_fact25) scriptOdd_fact26) scriptOdd_fact27) scriptOdd_fact28) scriptOdd_fact29) scriptOdd_fact30) scriptOdd_fact31) scriptOdd_fact32)
theorem scriptOdd_named : Tryz.pinned.checked.prog.funcNamed Rows.scriptOddRow.func = some 3 := by kernel_rfl
theorem scriptOdd_inst : Tryz.f3.isInstance Tryz.pinned.checked.prog Rows.scriptOddRow.origin Rows.scriptOddRow.targs := of_decide_eq_true (by kernel_rfl)
theorem scriptOdd_wrap : Tryz.f3.isWrapper Tryz.pinned.checked.prog Rows.scriptOddRow.wrapper Rows.scriptOddRow.mainSum := by
  unfold Func.isWrapper; first | (rw [if_pos (by decide +kernel)]; kernel_rfl) | (rw [if_neg (by decide +kernel)]; exact ⟨rfl, rfl⟩)
theorem scriptOdd_wfText : Rows.scriptOddRow.wfByText (OpenSpec.ofChange Rows.scriptOddSpec) = true := by kernel_rfl
theorem scriptOdd_main : Tryz.pinned.checked.prog.mainIs = some (Rows.scriptOddCard.stood.harness.1, Rows.scriptOddCard.stood.harness.2.toList) := by kernel_rfl
theorem scriptOdd_looks : Rows.scriptOddCard.stood.looks = Tryz.pinned.checked.prog.looks [] := by kernel_rfl
theorem scriptOdd_goes : false = Rows.scriptOddRow.goesBy Tryz.pinned.checked.prog := by kernel_rfl
end Go.Proofs.YtaejhdmkjodefaaGreatDoor
