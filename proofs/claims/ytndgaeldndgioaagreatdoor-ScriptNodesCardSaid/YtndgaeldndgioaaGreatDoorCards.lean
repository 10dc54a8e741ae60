/-
  DERIVED. GIVEN WITH THE SEED: THE CARDS: each row of YtndgaeldndgioaaGreatDoorRows.lean that lists a variable, with what it lists TIED to the program's text (the seventh form; the later family's looks); each row that meets fmt, with fmt's text TOLD by the authors' own Lean function (tested against real Go, not proved from fmt's source: count such statements apart). THE CARD IS WHAT COUNTS. Prove the row's statement (the work); the ties are given (YtndgaeldndgioaaGreatDoorTie.lean); close each card by the builder's one call (the guide's Derived/Test/ToyasCard.lean, 'card_holds'). Laid BY PROGRAM, IN A SANDBOX (cutbox-door.mjs). By AI agents, Wed Nov 11 2026. No macro, syntax, notation, axiom, sorry.
-/
import Derived.Test.YtndgaeldndgioaaGreatDoorRows
import GoSem.ClaimSeven
namespace Go.Proofs.YtndgaeldndgioaaGreatDoor
namespace Rows

/-- THE TIED CARD OF 'squelchlaw30.ScriptParses'. -/
def scriptParsesCard : Claim7 := { stood := { row := scriptParsesRow, standIns := [], harness := (true, "da5756e2d4c4bd1ba8e8f312282b50e91ff1323f256f7f7588ae48a88549457a"), looks := true }, kinds := [], alts := [], laidByText := true, laidKinds := [.data, .data, .data, .data, .sentinel, .sentinel, .pinned], laidTests := true, laidLooks := .later }
def ScriptParsesCardSaid : Prop := Claim7.holds Tryz.pinned (.plain (OpenSpec.ofChange scriptParsesSpec)) scriptParsesCard

/-- THE TIED CARD OF 'squelchlaw30.ScriptNodes'. -/
def scriptNodesCard : Claim7 := { stood := { row := scriptNodesRow, standIns := [], harness := (true, "da5756e2d4c4bd1ba8e8f312282b50e91ff1323f256f7f7588ae48a88549457a"), looks := true }, kinds := [], alts := [], laidByText := true, laidKinds := [.data, .data, .data, .data, .sentinel, .sentinel, .pinned], laidTests := true, laidLooks := .later }
def ScriptNodesCardSaid : Prop := Claim7.holds Tryz.pinned (.plain (OpenSpec.ofChange scriptNodesSpec)) scriptNodesCard

/-- THE TIED CARD OF 'squelchlaw30.ScriptConfigs'. -/
def scriptConfigsCard : Claim7 := { stood := { row := scriptConfigsRow, standIns := [], harness := (true, "da5756e2d4c4bd1ba8e8f312282b50e91ff1323f256f7f7588ae48a88549457a"), looks := true }, kinds := [], alts := [], laidByText := true, laidKinds := [.data, .data, .data, .data, .sentinel, .sentinel, .pinned], laidTests := true, laidLooks := .later }
def ScriptConfigsCardSaid : Prop := Claim7.holds Tryz.pinned (.plain (OpenSpec.ofChange scriptConfigsSpec)) scriptConfigsCard

/-- THE SECOND FORM's CARD OF 'squelchlaw30.ScriptParses'. -/
def scriptParsesUptoCard : Claim7 := { stood := { row := scriptParsesUptoRow, standIns := [], harness := (true, "da5756e2d4c4bd1ba8e8f312282b50e91ff1323f256f7f7588ae48a88549457a"), looks := true }, kinds := [], alts := [], laidByText := true, laidKinds := [.data, .data, .data, .data, .sentinel, .sentinel, .pinned], laidTests := true, laidLooks := .later }
def ScriptParsesUptoCardSaid : Prop := Claim7.holds Tryz.pinned (.plain (OpenSpec.upto scriptParsesSpec)) scriptParsesUptoCard

/-- THE SECOND FORM's CARD OF 'squelchlaw30.ScriptNodes'. -/
def scriptNodesUptoCard : Claim7 := { stood := { row := scriptNodesUptoRow, standIns := [], harness := (true, "da5756e2d4c4bd1ba8e8f312282b50e91ff1323f256f7f7588ae48a88549457a"), looks := true }, kinds := [], alts := [], laidByText := true, laidKinds := [.data, .data, .data, .data, .sentinel, .sentinel, .pinned], laidTests := true, laidLooks := .later }
def ScriptNodesUptoCardSaid : Prop := Claim7.holds Tryz.pinned (.plain (OpenSpec.upto scriptNodesSpec)) scriptNodesUptoCard

/-- THE SECOND FORM's CARD OF 'squelchlaw30.ScriptConfigs'. -/
def scriptConfigsUptoCard : Claim7 := { stood := { row := scriptConfigsUptoRow, standIns := [], harness := (true, "da5756e2d4c4bd1ba8e8f312282b50e91ff1323f256f7f7588ae48a88549457a"), looks := true }, kinds := [], alts := [], laidByText := true, laidKinds := [.data, .data, .data, .data, .sentinel, .sentinel, .pinned], laidTests := true, laidLooks := .later }
def ScriptConfigsUptoCardSaid : Prop := Claim7.holds Tryz.pinned (.plain (OpenSpec.upto scriptConfigsSpec)) scriptConfigsUptoCard
end Rows
end Go.Proofs.YtndgaeldndgioaaGreatDoor
