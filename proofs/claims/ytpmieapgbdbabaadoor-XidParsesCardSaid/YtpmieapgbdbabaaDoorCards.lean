/-
  DERIVED. GIVEN WITH THE SEED: THE CARDS: each row of YtpmieapgbdbabaaDoorRows.lean that lists a variable, with what it lists TIED to the program's text (the seventh form; the later family's looks); each row that meets fmt, with fmt's text TOLD by the authors' own Lean function (tested against real Go, not proved from fmt's source: count such statements apart). THE CARD IS WHAT COUNTS. Prove the row's statement (the work); the ties are given (YtpmieapgbdbabaaDoorTie.lean); close each card by the builder's one call (the guide's Derived/Test/ToyasCard.lean, 'card_holds'). Laid BY PROGRAM, IN A SANDBOX (cutbox-door.mjs). By AI agents, Wed Nov 11 2026. No macro, syntax, notation, axiom, sorry.
-/
import Derived.Test.YtpmieapgbdbabaaDoorRows
import GoSem.ClaimSeven
namespace Go.Proofs.YtpmieapgbdbabaaDoor
namespace Rows

/-- THE TIED CARD OF 'squelchlaw05.PathGoes'. -/
def pathGoesCard : Claim7 := { stood := { row := pathGoesRow, standIns := [], harness := (true, "b63f2f92baa42f5091e235388c6ae0d54991875acb84ccae606eb7f7e9e6d94e"), looks := true }, kinds := [], alts := [], laidByText := true, laidKinds := [.data, .data, .data], laidTests := true, laidLooks := .later }
def PathGoesCardSaid : Prop := Claim7.holds Tryd.pinned (.plain (OpenSpec.ofChange pathGoesSpec)) pathGoesCard

/-- THE TIED CARD OF 'squelchlaw05.PathEight'. -/
def pathEightCard : Claim7 := { stood := { row := pathEightRow, standIns := [], harness := (true, "b63f2f92baa42f5091e235388c6ae0d54991875acb84ccae606eb7f7e9e6d94e"), looks := true }, kinds := [], alts := [], laidByText := true, laidKinds := [.data, .data, .data], laidTests := true, laidLooks := .later }
def PathEightCardSaid : Prop := Claim7.holds Tryd.pinned (.plain (OpenSpec.ofChange pathEightSpec)) pathEightCard

/-- THE TIED CARD OF 'squelchlaw05.PathReads'. -/
def pathReadsCard : Claim7 := { stood := { row := pathReadsRow, standIns := [], harness := (true, "b63f2f92baa42f5091e235388c6ae0d54991875acb84ccae606eb7f7e9e6d94e"), looks := true }, kinds := [], alts := [], laidByText := true, laidKinds := [.data, .data, .data, .data, .pinned], laidTests := true, laidLooks := .later }
def PathReadsCardSaid : Prop := Claim7.holds Tryd.pinned (.plain (OpenSpec.ofChange pathReadsSpec)) pathReadsCard

/-- THE TIED CARD OF 'squelchlaw05.PathBytes'. -/
def pathBytesCard : Claim7 := { stood := { row := pathBytesRow, standIns := [], harness := (true, "b63f2f92baa42f5091e235388c6ae0d54991875acb84ccae606eb7f7e9e6d94e"), looks := true }, kinds := [], alts := [], laidByText := true, laidKinds := [.data, .data, .data, .data, .pinned], laidTests := true, laidLooks := .later }
def PathBytesCardSaid : Prop := Claim7.holds Tryd.pinned (.plain (OpenSpec.ofChange pathBytesSpec)) pathBytesCard

/-- THE TIED CARD OF 'squelchlaw04.CallOrder'. -/
def callOrderCard : Claim7 := { stood := { row := callOrderRow, standIns := [], harness := (true, "b63f2f92baa42f5091e235388c6ae0d54991875acb84ccae606eb7f7e9e6d94e"), looks := true }, kinds := [], alts := [], laidByText := true, laidKinds := [.data, .data, .data, .sentinel, .sentinel], laidTests := true, laidLooks := .later }
def CallOrderCardSaid : Prop := Claim7.holds Tryd.pinned (.plain (OpenSpec.ofChange callOrderSpec)) callOrderCard

/-- THE TIED CARD OF 'squelchlaw04.CallWords'. -/
def callWordsCard : Claim7 := { stood := { row := callWordsRow, standIns := [], harness := (true, "b63f2f92baa42f5091e235388c6ae0d54991875acb84ccae606eb7f7e9e6d94e"), looks := true }, kinds := [], alts := [], laidByText := true, laidKinds := [.data, .data, .data, .sentinel, .sentinel], laidTests := true, laidLooks := .later }
def CallWordsCardSaid : Prop := Claim7.holds Tryd.pinned (.plain (OpenSpec.ofChange callWordsSpec)) callWordsCard

/-- THE TIED CARD OF 'squelchlaw04.CallDistinct'. -/
def callDistinctCard : Claim7 := { stood := { row := callDistinctRow, standIns := [], harness := (true, "b63f2f92baa42f5091e235388c6ae0d54991875acb84ccae606eb7f7e9e6d94e"), looks := true }, kinds := [], alts := [], laidByText := true, laidKinds := [.data, .data, .data, .sentinel, .sentinel], laidTests := true, laidLooks := .later }
def CallDistinctCardSaid : Prop := Claim7.holds Tryd.pinned (.plain (OpenSpec.ofChange callDistinctSpec)) callDistinctCard

/-- THE TIED CARD OF 'squelchlaw08.XidTexts'. -/
def xidTextsCard : Claim7 := { stood := { row := xidTextsRow, standIns := [], harness := (true, "b63f2f92baa42f5091e235388c6ae0d54991875acb84ccae606eb7f7e9e6d94e"), looks := true }, kinds := [], alts := [], laidByText := true, laidKinds := [.data, .data, .data, .data, .sentinel, .sentinel, .pinned], laidTests := true, laidLooks := .later }
def XidTextsCardSaid : Prop := Claim7.holds Tryd.pinned (.plain (OpenSpec.ofChange xidTextsSpec)) xidTextsCard

/-- THE TIED CARD OF 'squelchlaw08.XidParses'. -/
def xidParsesCard : Claim7 := { stood := { row := xidParsesRow, standIns := [], harness := (true, "b63f2f92baa42f5091e235388c6ae0d54991875acb84ccae606eb7f7e9e6d94e"), looks := true }, kinds := [], alts := [], laidByText := true, laidKinds := [.data, .data, .data, .data, .sentinel, .sentinel, .pinned], laidTests := true, laidLooks := .later }
def XidParsesCardSaid : Prop := Claim7.holds Tryd.pinned (.plain (OpenSpec.ofChange xidParsesSpec)) xidParsesCard

/-- THE TIED CARD OF 'squelchlaw04.CallBytes'. -/
def callBytesCard : Claim7 := { stood := { row := callBytesRow, standIns := [], harness := (true, "b63f2f92baa42f5091e235388c6ae0d54991875acb84ccae606eb7f7e9e6d94e"), looks := true }, kinds := [], alts := [], laidByText := true, laidKinds := [.data, .data, .data, .data, .sentinel, .sentinel, .pinned], laidTests := true, laidLooks := .later }
def CallBytesCardSaid : Prop := Claim7.holds Tryd.pinned (.plain (OpenSpec.ofChange callBytesSpec)) callBytesCard

/-- THE TIED CARD OF 'squelchlaw05.PathParses'. -/
def pathParsesCard : Claim7 := { stood := { row := pathParsesRow, standIns := [], harness := (true, "b63f2f92baa42f5091e235388c6ae0d54991875acb84ccae606eb7f7e9e6d94e"), looks := true }, kinds := [], alts := [], laidByText := true, laidKinds := [.data, .data, .data, .data, .sentinel, .sentinel, .pinned], laidTests := true, laidLooks := .later }
def PathParsesCardSaid : Prop := Claim7.holds Tryd.pinned (.plain (OpenSpec.ofChange pathParsesSpec)) pathParsesCard

/-- THE TIED CARD OF 'squelchlaw05.PathTexts'. -/
def pathTextsCard : Claim7 := { stood := { row := pathTextsRow, standIns := [], harness := (true, "b63f2f92baa42f5091e235388c6ae0d54991875acb84ccae606eb7f7e9e6d94e"), looks := true }, kinds := [], alts := [], laidByText := true, laidKinds := [.data, .data, .data, .data, .sentinel, .sentinel, .pinned], laidTests := true, laidLooks := .later }
def PathTextsCardSaid : Prop := Claim7.holds Tryd.pinned (.plain (OpenSpec.ofChange pathTextsSpec)) pathTextsCard

/-- THE SECOND FORM's CARD OF 'squelchlaw05.PathGoes'. -/
def pathGoesUptoCard : Claim7 := { stood := { row := pathGoesUptoRow, standIns := [], harness := (true, "b63f2f92baa42f5091e235388c6ae0d54991875acb84ccae606eb7f7e9e6d94e"), looks := true }, kinds := [], alts := [], laidByText := true, laidKinds := [.data, .data, .data], laidTests := true, laidLooks := .later }
def PathGoesUptoCardSaid : Prop := Claim7.holds Tryd.pinned (.plain (OpenSpec.upto pathGoesSpec)) pathGoesUptoCard

/-- THE SECOND FORM's CARD OF 'squelchlaw05.PathEight'. -/
def pathEightUptoCard : Claim7 := { stood := { row := pathEightUptoRow, standIns := [], harness := (true, "b63f2f92baa42f5091e235388c6ae0d54991875acb84ccae606eb7f7e9e6d94e"), looks := true }, kinds := [], alts := [], laidByText := true, laidKinds := [.data, .data, .data], laidTests := true, laidLooks := .later }
def PathEightUptoCardSaid : Prop := Claim7.holds Tryd.pinned (.plain (OpenSpec.upto pathEightSpec)) pathEightUptoCard

/-- THE SECOND FORM's CARD OF 'squelchlaw05.PathReads'. -/
def pathReadsUptoCard : Claim7 := { stood := { row := pathReadsUptoRow, standIns := [], harness := (true, "b63f2f92baa42f5091e235388c6ae0d54991875acb84ccae606eb7f7e9e6d94e"), looks := true }, kinds := [], alts := [], laidByText := true, laidKinds := [.data, .data, .data, .data, .pinned], laidTests := true, laidLooks := .later }
def PathReadsUptoCardSaid : Prop := Claim7.holds Tryd.pinned (.plain (OpenSpec.upto pathReadsSpec)) pathReadsUptoCard

/-- THE SECOND FORM's CARD OF 'squelchlaw05.PathBytes'. -/
def pathBytesUptoCard : Claim7 := { stood := { row := pathBytesUptoRow, standIns := [], harness := (true, "b63f2f92baa42f5091e235388c6ae0d54991875acb84ccae606eb7f7e9e6d94e"), looks := true }, kinds := [], alts := [], laidByText := true, laidKinds := [.data, .data, .data, .data, .pinned], laidTests := true, laidLooks := .later }
def PathBytesUptoCardSaid : Prop := Claim7.holds Tryd.pinned (.plain (OpenSpec.upto pathBytesSpec)) pathBytesUptoCard

/-- THE SECOND FORM's CARD OF 'squelchlaw04.CallOrder'. -/
def callOrderUptoCard : Claim7 := { stood := { row := callOrderUptoRow, standIns := [], harness := (true, "b63f2f92baa42f5091e235388c6ae0d54991875acb84ccae606eb7f7e9e6d94e"), looks := true }, kinds := [], alts := [], laidByText := true, laidKinds := [.data, .data, .data, .sentinel, .sentinel], laidTests := true, laidLooks := .later }
def CallOrderUptoCardSaid : Prop := Claim7.holds Tryd.pinned (.plain (OpenSpec.upto callOrderSpec)) callOrderUptoCard

/-- THE SECOND FORM's CARD OF 'squelchlaw04.CallWords'. -/
def callWordsUptoCard : Claim7 := { stood := { row := callWordsUptoRow, standIns := [], harness := (true, "b63f2f92baa42f5091e235388c6ae0d54991875acb84ccae606eb7f7e9e6d94e"), looks := true }, kinds := [], alts := [], laidByText := true, laidKinds := [.data, .data, .data, .sentinel, .sentinel], laidTests := true, laidLooks := .later }
def CallWordsUptoCardSaid : Prop := Claim7.holds Tryd.pinned (.plain (OpenSpec.upto callWordsSpec)) callWordsUptoCard

/-- THE SECOND FORM's CARD OF 'squelchlaw04.CallDistinct'. -/
def callDistinctUptoCard : Claim7 := { stood := { row := callDistinctUptoRow, standIns := [], harness := (true, "b63f2f92baa42f5091e235388c6ae0d54991875acb84ccae606eb7f7e9e6d94e"), looks := true }, kinds := [], alts := [], laidByText := true, laidKinds := [.data, .data, .data, .sentinel, .sentinel], laidTests := true, laidLooks := .later }
def CallDistinctUptoCardSaid : Prop := Claim7.holds Tryd.pinned (.plain (OpenSpec.upto callDistinctSpec)) callDistinctUptoCard

/-- THE SECOND FORM's CARD OF 'squelchlaw08.XidTexts'. -/
def xidTextsUptoCard : Claim7 := { stood := { row := xidTextsUptoRow, standIns := [], harness := (true, "b63f2f92baa42f5091e235388c6ae0d54991875acb84ccae606eb7f7e9e6d94e"), looks := true }, kinds := [], alts := [], laidByText := true, laidKinds := [.data, .data, .data, .data, .sentinel, .sentinel, .pinned], laidTests := true, laidLooks := .later }
def XidTextsUptoCardSaid : Prop := Claim7.holds Tryd.pinned (.plain (OpenSpec.upto xidTextsSpec)) xidTextsUptoCard

/-- THE SECOND FORM's CARD OF 'squelchlaw08.XidParses'. -/
def xidParsesUptoCard : Claim7 := { stood := { row := xidParsesUptoRow, standIns := [], harness := (true, "b63f2f92baa42f5091e235388c6ae0d54991875acb84ccae606eb7f7e9e6d94e"), looks := true }, kinds := [], alts := [], laidByText := true, laidKinds := [.data, .data, .data, .data, .sentinel, .sentinel, .pinned], laidTests := true, laidLooks := .later }
def XidParsesUptoCardSaid : Prop := Claim7.holds Tryd.pinned (.plain (OpenSpec.upto xidParsesSpec)) xidParsesUptoCard

/-- THE SECOND FORM's CARD OF 'squelchlaw04.CallBytes'. -/
def callBytesUptoCard : Claim7 := { stood := { row := callBytesUptoRow, standIns := [], harness := (true, "b63f2f92baa42f5091e235388c6ae0d54991875acb84ccae606eb7f7e9e6d94e"), looks := true }, kinds := [], alts := [], laidByText := true, laidKinds := [.data, .data, .data, .data, .sentinel, .sentinel, .pinned], laidTests := true, laidLooks := .later }
def CallBytesUptoCardSaid : Prop := Claim7.holds Tryd.pinned (.plain (OpenSpec.upto callBytesSpec)) callBytesUptoCard

/-- THE SECOND FORM's CARD OF 'squelchlaw05.PathParses'. -/
def pathParsesUptoCard : Claim7 := { stood := { row := pathParsesUptoRow, standIns := [], harness := (true, "b63f2f92baa42f5091e235388c6ae0d54991875acb84ccae606eb7f7e9e6d94e"), looks := true }, kinds := [], alts := [], laidByText := true, laidKinds := [.data, .data, .data, .data, .sentinel, .sentinel, .pinned], laidTests := true, laidLooks := .later }
def PathParsesUptoCardSaid : Prop := Claim7.holds Tryd.pinned (.plain (OpenSpec.upto pathParsesSpec)) pathParsesUptoCard

/-- THE SECOND FORM's CARD OF 'squelchlaw05.PathTexts'. -/
def pathTextsUptoCard : Claim7 := { stood := { row := pathTextsUptoRow, standIns := [], harness := (true, "b63f2f92baa42f5091e235388c6ae0d54991875acb84ccae606eb7f7e9e6d94e"), looks := true }, kinds := [], alts := [], laidByText := true, laidKinds := [.data, .data, .data, .data, .sentinel, .sentinel, .pinned], laidTests := true, laidLooks := .later }
def PathTextsUptoCardSaid : Prop := Claim7.holds Tryd.pinned (.plain (OpenSpec.upto pathTextsSpec)) pathTextsUptoCard
end Rows
end Go.Proofs.YtpmieapgbdbabaaDoor
