/-
  DERIVED. GIVEN WITH THE SEED: THE CARDS: each row of YtgaboenipiojoaaGreatDoorRows.lean that lists a variable, with what it lists TIED to the program's text (the seventh form; the later family's looks); each row that meets fmt, with fmt's text TOLD by the authors' own Lean function (tested against real Go, not proved from fmt's source: count such statements apart). THE CARD IS WHAT COUNTS. Prove the row's statement (the work); the ties are given (YtgaboenipiojoaaGreatDoorTie.lean); close each card by the builder's one call (the guide's Derived/Test/ToyasCard.lean, 'card_holds'). Laid BY PROGRAM, IN A SANDBOX (cutbox-door.mjs). By AI agents, Wed Nov 11 2026. No macro, syntax, notation, axiom, sorry.
-/
import Derived.Test.YtgaboenipiojoaaGreatDoorRows
import GoSem.ClaimSeven
namespace Go.Proofs.YtgaboenipiojoaaGreatDoor
namespace Rows

/-- THE TIED CARD OF 'squelchlaw25.CmdNames'. -/
def cmdNamesCard : Claim7 := { stood := { row := cmdNamesRow, standIns := [], harness := (true, "0d74bf6dcd223bde804431f584e3ebb3b310f172bf0644cccbcc099a9d7da62b"), looks := true }, kinds := [], alts := [], laidByText := true, laidKinds := [.data, .data, .data, .data, .sentinel, .sentinel, .listed, .data, .pinned, .pinned], laidTests := true, laidLooks := .later }
def CmdNamesCardSaid : Prop := Claim7.holds Tryz.pinned (.plain (OpenSpec.ofChange cmdNamesSpec)) cmdNamesCard

/-- THE TIED CARD OF 'squelchlaw25.CmdBlanks'. -/
def cmdBlanksCard : Claim7 := { stood := { row := cmdBlanksRow, standIns := [], harness := (true, "0d74bf6dcd223bde804431f584e3ebb3b310f172bf0644cccbcc099a9d7da62b"), looks := true }, kinds := [], alts := [], laidByText := true, laidKinds := [.data, .data, .data, .data, .sentinel, .sentinel, .listed, .data, .pinned, .pinned], laidTests := true, laidLooks := .later }
def CmdBlanksCardSaid : Prop := Claim7.holds Tryz.pinned (.plain (OpenSpec.ofChange cmdBlanksSpec)) cmdBlanksCard

/-- THE TIED CARD OF 'squelchlaw26.ShellData'. -/
def shellDataCard : Claim7 := { stood := { row := shellDataRow, standIns := [], harness := (true, "0d74bf6dcd223bde804431f584e3ebb3b310f172bf0644cccbcc099a9d7da62b"), looks := true }, kinds := [], alts := [], laidByText := true, laidKinds := [.data, .data, .data, .data, .sentinel, .sentinel, .listed, .data, .pinned], laidTests := true, laidLooks := .later }
def ShellDataCardSaid : Prop := Claim7.holds Tryz.pinned (.plain (OpenSpec.ofChange shellDataSpec)) shellDataCard

/-- THE TIED CARD OF 'squelchlaw26.ShellMessages'. -/
def shellMessagesCard : Claim7 := { stood := { row := shellMessagesRow, standIns := [], harness := (true, "0d74bf6dcd223bde804431f584e3ebb3b310f172bf0644cccbcc099a9d7da62b"), looks := true }, kinds := [], alts := [], laidByText := true, laidKinds := [.data, .data, .data, .data, .sentinel, .sentinel, .listed, .data, .pinned], laidTests := true, laidLooks := .later }
def ShellMessagesCardSaid : Prop := Claim7.holds Tryz.pinned (.plain (OpenSpec.ofChange shellMessagesSpec)) shellMessagesCard

/-- THE SECOND FORM's CARD OF 'squelchlaw25.CmdNames'. -/
def cmdNamesUptoCard : Claim7 := { stood := { row := cmdNamesUptoRow, standIns := [], harness := (true, "0d74bf6dcd223bde804431f584e3ebb3b310f172bf0644cccbcc099a9d7da62b"), looks := true }, kinds := [], alts := [], laidByText := true, laidKinds := [.data, .data, .data, .data, .sentinel, .sentinel, .listed, .data, .pinned, .pinned], laidTests := true, laidLooks := .later }
def CmdNamesUptoCardSaid : Prop := Claim7.holds Tryz.pinned (.plain (OpenSpec.upto cmdNamesSpec)) cmdNamesUptoCard

/-- THE SECOND FORM's CARD OF 'squelchlaw25.CmdBlanks'. -/
def cmdBlanksUptoCard : Claim7 := { stood := { row := cmdBlanksUptoRow, standIns := [], harness := (true, "0d74bf6dcd223bde804431f584e3ebb3b310f172bf0644cccbcc099a9d7da62b"), looks := true }, kinds := [], alts := [], laidByText := true, laidKinds := [.data, .data, .data, .data, .sentinel, .sentinel, .listed, .data, .pinned, .pinned], laidTests := true, laidLooks := .later }
def CmdBlanksUptoCardSaid : Prop := Claim7.holds Tryz.pinned (.plain (OpenSpec.upto cmdBlanksSpec)) cmdBlanksUptoCard

/-- THE SECOND FORM's CARD OF 'squelchlaw26.ShellData'. -/
def shellDataUptoCard : Claim7 := { stood := { row := shellDataUptoRow, standIns := [], harness := (true, "0d74bf6dcd223bde804431f584e3ebb3b310f172bf0644cccbcc099a9d7da62b"), looks := true }, kinds := [], alts := [], laidByText := true, laidKinds := [.data, .data, .data, .data, .sentinel, .sentinel, .listed, .data, .pinned], laidTests := true, laidLooks := .later }
def ShellDataUptoCardSaid : Prop := Claim7.holds Tryz.pinned (.plain (OpenSpec.upto shellDataSpec)) shellDataUptoCard

/-- THE SECOND FORM's CARD OF 'squelchlaw26.ShellMessages'. -/
def shellMessagesUptoCard : Claim7 := { stood := { row := shellMessagesUptoRow, standIns := [], harness := (true, "0d74bf6dcd223bde804431f584e3ebb3b310f172bf0644cccbcc099a9d7da62b"), looks := true }, kinds := [], alts := [], laidByText := true, laidKinds := [.data, .data, .data, .data, .sentinel, .sentinel, .listed, .data, .pinned], laidTests := true, laidLooks := .later }
def ShellMessagesUptoCardSaid : Prop := Claim7.holds Tryz.pinned (.plain (OpenSpec.upto shellMessagesSpec)) shellMessagesUptoCard
end Rows
end Go.Proofs.YtgaboenipiojoaaGreatDoor
