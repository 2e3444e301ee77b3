/-
  DERIVED. GIVEN WITH THE SEED: THE CARDS: each row of YtgiefnmclahbaaaGreatDoorRows.lean that lists a variable, with what it lists TIED to the program's text (the seventh form; the later family's looks); each row that meets fmt, with fmt's text TOLD by the authors' own Lean function (tested against real Go, not proved from fmt's source: count such statements apart). THE CARD IS WHAT COUNTS. Prove the row's statement (the work); the ties are given (YtgiefnmclahbaaaGreatDoorTie.lean); close each card by the builder's one call (the guide's Derived/Test/ToyasCard.lean, 'card_holds'). Laid BY PROGRAM, IN A SANDBOX (cutbox-door.mjs). By AI agents, Wed Nov 11 2026. No macro, syntax, notation, axiom, sorry.
-/
import Derived.Test.YtgiefnmclahbaaaGreatDoorRows
import GoSem.ClaimSeven
namespace Go.Proofs.YtgiefnmclahbaaaGreatDoor
namespace Rows

/-- THE TIED CARD OF 'groynelaw23.ScriptBack'. -/
def scriptBackCard : Claim7 := { stood := { row := scriptBackRow, standIns := [], harness := (true, "d095bfd49c494c75b3e5b94006cf627b987619e652d93e3bb40d190aab85bd0c"), looks := false }, kinds := [], alts := [], laidByText := true, laidKinds := [.data, .pinned], laidTests := true, laidLooks := .later }
def ScriptBackCardSaid : Prop := Claim7.holds Tryz.pinned (.plain (OpenSpec.ofChange scriptBackSpec)) scriptBackCard

/-- THE TIED CARD OF 'groynelaw23.ScriptRows'. -/
def scriptRowsCard : Claim7 := { stood := { row := scriptRowsRow, standIns := [], harness := (true, "d095bfd49c494c75b3e5b94006cf627b987619e652d93e3bb40d190aab85bd0c"), looks := false }, kinds := [], alts := [], laidByText := true, laidKinds := [.data, .pinned], laidTests := true, laidLooks := .later }
def ScriptRowsCardSaid : Prop := Claim7.holds Tryz.pinned (.plain (OpenSpec.ofChange scriptRowsSpec)) scriptRowsCard

/-- THE SECOND FORM's CARD OF 'groynelaw23.ScriptBack'. -/
def scriptBackUptoCard : Claim7 := { stood := { row := scriptBackUptoRow, standIns := [], harness := (true, "d095bfd49c494c75b3e5b94006cf627b987619e652d93e3bb40d190aab85bd0c"), looks := false }, kinds := [], alts := [], laidByText := true, laidKinds := [.data, .pinned], laidTests := true, laidLooks := .later }
def ScriptBackUptoCardSaid : Prop := Claim7.holds Tryz.pinned (.plain (OpenSpec.upto scriptBackSpec)) scriptBackUptoCard

/-- THE SECOND FORM's CARD OF 'groynelaw23.ScriptRows'. -/
def scriptRowsUptoCard : Claim7 := { stood := { row := scriptRowsUptoRow, standIns := [], harness := (true, "d095bfd49c494c75b3e5b94006cf627b987619e652d93e3bb40d190aab85bd0c"), looks := false }, kinds := [], alts := [], laidByText := true, laidKinds := [.data, .pinned], laidTests := true, laidLooks := .later }
def ScriptRowsUptoCardSaid : Prop := Claim7.holds Tryz.pinned (.plain (OpenSpec.upto scriptRowsSpec)) scriptRowsUptoCard
end Rows
end Go.Proofs.YtgiefnmclahbaaaGreatDoor
