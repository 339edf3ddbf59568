/-
  DERIVED. GIVEN WITH THE SEED: THE CARDS: each row of YtaejhdmkjodefaaGreatDoorRows.lean that lists a variable, with what it lists TIED to the program's text (the seventh form; the later family's looks); each row that meets fmt, with fmt's text TOLD by the authors' own Lean function (tested against real Go, not proved from fmt's source: count such statements apart). THE CARD IS WHAT COUNTS. Prove the row's statement (the work); the ties are given (YtaejhdmkjodefaaGreatDoorTie.lean); close each card by the builder's one call (the guide's Derived/Test/ToyasCard.lean, 'card_holds'). Laid BY PROGRAM, IN A SANDBOX (cutbox-door.mjs). By AI agents, Wed Nov 11 2026. No macro, syntax, notation, axiom, sorry.
-/
import Derived.Test.YtaejhdmkjodefaaGreatDoorRows
import GoSem.ClaimSeven
namespace Go.Proofs.YtaejhdmkjodefaaGreatDoor
namespace Rows

/-- THE TIED CARD OF 'laceworklaw28.ScriptOdd'. -/
def scriptOddCard : Claim7 := { stood := { row := scriptOddRow, standIns := [], harness := (true, "ce85d9fd9a01770aa1057b9a4e541d57dbbd48449aaa904e1561c97871fb6841"), looks := true }, kinds := [], alts := [], laidByText := true, laidKinds := [.data, .data, .data, .data, .pinned], laidTests := true, laidLooks := .later }
def ScriptOddCardSaid : Prop := Claim7.holds Tryz.pinned (.plain (OpenSpec.ofChange scriptOddSpec)) scriptOddCard

/-- THE TIED CARD OF 'laceworklaw28.ScriptHex'. -/
def scriptHexCard : Claim7 := { stood := { row := scriptHexRow, standIns := [], harness := (true, "ce85d9fd9a01770aa1057b9a4e541d57dbbd48449aaa904e1561c97871fb6841"), looks := true }, kinds := [], alts := [], laidByText := true, laidKinds := [.data, .data, .data, .data, .pinned], laidTests := true, laidLooks := .later }
def ScriptHexCardSaid : Prop := Claim7.holds Tryz.pinned (.plain (OpenSpec.ofChange scriptHexSpec)) scriptHexCard

/-- THE SECOND FORM's CARD OF 'laceworklaw28.ScriptOdd'. -/
def scriptOddUptoCard : Claim7 := { stood := { row := scriptOddUptoRow, standIns := [], harness := (true, "ce85d9fd9a01770aa1057b9a4e541d57dbbd48449aaa904e1561c97871fb6841"), looks := true }, kinds := [], alts := [], laidByText := true, laidKinds := [.data, .data, .data, .data, .pinned], laidTests := true, laidLooks := .later }
def ScriptOddUptoCardSaid : Prop := Claim7.holds Tryz.pinned (.plain (OpenSpec.upto scriptOddSpec)) scriptOddUptoCard

/-- THE SECOND FORM's CARD OF 'laceworklaw28.ScriptHex'. -/
def scriptHexUptoCard : Claim7 := { stood := { row := scriptHexUptoRow, standIns := [], harness := (true, "ce85d9fd9a01770aa1057b9a4e541d57dbbd48449aaa904e1561c97871fb6841"), looks := true }, kinds := [], alts := [], laidByText := true, laidKinds := [.data, .data, .data, .data, .pinned], laidTests := true, laidLooks := .later }
def ScriptHexUptoCardSaid : Prop := Claim7.holds Tryz.pinned (.plain (OpenSpec.upto scriptHexSpec)) scriptHexUptoCard
end Rows
end Go.Proofs.YtaejhdmkjodefaaGreatDoor
