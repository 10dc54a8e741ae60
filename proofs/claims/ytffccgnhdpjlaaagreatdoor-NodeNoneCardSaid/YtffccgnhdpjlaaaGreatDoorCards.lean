/-
  DERIVED. GIVEN WITH THE SEED: THE CARDS: each row of YtffccgnhdpjlaaaGreatDoorRows.lean that lists a variable, with what it lists TIED to the program's text (the seventh form; the later family's looks); each row that meets fmt, with fmt's text TOLD by the authors' own Lean function (tested against real Go, not proved from fmt's source: count such statements apart). THE CARD IS WHAT COUNTS. Prove the row's statement (the work); the ties are given (YtffccgnhdpjlaaaGreatDoorTie.lean); close each card by the builder's one call (the guide's Derived/Test/ToyasCard.lean, 'card_holds'). Laid BY PROGRAM, IN A SANDBOX (cutbox-door.mjs). By AI agents, Wed Nov 11 2026. No macro, syntax, notation, axiom, sorry.
-/
import Derived.Test.YtffccgnhdpjlaaaGreatDoorRows
import GoSem.ClaimSeven
namespace Go.Proofs.YtffccgnhdpjlaaaGreatDoor
namespace Rows

/-- THE TIED CARD OF 'squelchlaw27.NodeNone'. -/
def nodeNoneCard : Claim7 := { stood := { row := nodeNoneRow, standIns := [], harness := (true, "76e636334a5958b1e8642e8d855dfdd1635c711cd164d86003e85eaba2beb2a9"), looks := true }, kinds := [], alts := [], laidByText := true, laidKinds := [.data, .data, .data, .data, .sentinel, .sentinel, .listed, .data, .pinned], laidTests := true, laidLooks := .later }
def NodeNoneCardSaid : Prop := Claim7.holds Tryz.pinned (.plain (OpenSpec.ofChange nodeNoneSpec)) nodeNoneCard

/-- THE SECOND FORM's CARD OF 'squelchlaw27.NodeNone'. -/
def nodeNoneUptoCard : Claim7 := { stood := { row := nodeNoneUptoRow, standIns := [], harness := (true, "76e636334a5958b1e8642e8d855dfdd1635c711cd164d86003e85eaba2beb2a9"), looks := true }, kinds := [], alts := [], laidByText := true, laidKinds := [.data, .data, .data, .data, .sentinel, .sentinel, .listed, .data, .pinned], laidTests := true, laidLooks := .later }
def NodeNoneUptoCardSaid : Prop := Claim7.holds Tryz.pinned (.plain (OpenSpec.upto nodeNoneSpec)) nodeNoneUptoCard
end Rows
end Go.Proofs.YtffccgnhdpjlaaaGreatDoor
